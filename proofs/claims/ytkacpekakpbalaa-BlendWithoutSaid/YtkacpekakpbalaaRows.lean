/-
  No cell of these rows narrows 'for every input' (looked for: loops, veiled, ifaces, maps, wideKeys, modest, calm, conditions, laid).
  DERIVED. THE GIVEN ROWS OF THIS SEAT. 12 by the template 'for every input the law returns true; each argument reads behind the call as it read before'; 0 by the template 'total and deterministic' (their statements: YtkacpekakpbalaaTotals.lean).
  GIVEN WITH THE SEED: the statements are not yours to turn. If you find one false, say at which input.
  Laid BY PROGRAM, IN A SANDBOX (cutbox-rows.mjs): the forced cells as the released guide's own fill.sh prints them over the translation 1cf044299d45b352… (all of the seat's roots in one cut). By AI agents, Wed Nov 11 2026. No macro, syntax, notation, axiom, sorry.
-/
import Derived.Test.YtkacpekakpbalaaChecked
import GoSem.Claim
import GoSem.ClaimJoined
import GoSem.ClaimMapViews
import Derived.JoinedTies
import Derived.KernelRfl
namespace Go.Proofs.Ytkacpekakpbalaa
/- THE CELL 'sum', in the pinned program and in every row, IS THE sha256 OF THE DUMP (.gsa) THAT YtkacpekakpbalaaProg.lean LOADS. Nothing in Lean hashes anything: it is a label: what it is worth is what the hold of that sum in a sandbox is worth. -/
noncomputable def Try.pinned : Pinned := { name := "ytkacpekakpbalaa", sum := "1cf044299d45b3529183673cf45a7e94e1e297294fa887fef74b320dd0992d0a", checked := Try.checked }
namespace Rows
def none {H : Type} : Left H := { results := [], args := [] }

/-- 'linoleumlaw04.BlendValidates': WHATEVER THE INPUT: true; the input reads as it did. -/
def blendValidatesSpec : ChangeSpec := { name := "blendValidates", fn := fun _ => fun
  | [d] => { results := [.lit (.bool true)], args := [d] }
  | _ => none }
def blendValidatesRow : OpenClaim := { program := "ytkacpekakpbalaa", sum := "1cf044299d45b3529183673cf45a7e94e1e297294fa887fef74b320dd0992d0a", func := "linoleum/linoleumlaw04.BlendValidates", spec := "blendValidates", unfollowed := true, recurses := true, apart := false }
def BlendValidatesSaid : Prop := blendValidatesRow.holds Try.pinned (OpenSpec.ofChange blendValidatesSpec)

/-- ITS FALSE NEIGHBOUR: 'it returns false'. Refute it at one input. -/
def blendValidatesWrong : ChangeSpec := { name := "blendValidates", fn := fun _ => fun
  | [d] => { results := [.lit (.bool false)], args := [d] }
  | _ => none }
def BlendValidatesWrongFalsely : Prop := blendValidatesRow.holds Try.pinned (OpenSpec.ofChange blendValidatesWrong)

/-- 'linoleumlaw04.BlendLeast': WHATEVER THE INPUT: true; the input reads as it did. -/
def blendLeastSpec : ChangeSpec := { name := "blendLeast", fn := fun _ => fun
  | [d] => { results := [.lit (.bool true)], args := [d] }
  | _ => none }
def blendLeastRow : OpenClaim := { program := "ytkacpekakpbalaa", sum := "1cf044299d45b3529183673cf45a7e94e1e297294fa887fef74b320dd0992d0a", func := "linoleum/linoleumlaw04.BlendLeast", spec := "blendLeast", unfollowed := true, recurses := true, apart := false }
def BlendLeastSaid : Prop := blendLeastRow.holds Try.pinned (OpenSpec.ofChange blendLeastSpec)

/-- ITS FALSE NEIGHBOUR: 'it returns false'. Refute it at one input. -/
def blendLeastWrong : ChangeSpec := { name := "blendLeast", fn := fun _ => fun
  | [d] => { results := [.lit (.bool false)], args := [d] }
  | _ => none }
def BlendLeastWrongFalsely : Prop := blendLeastRow.holds Try.pinned (OpenSpec.ofChange blendLeastWrong)

/-- 'linoleumlaw04.BlendSolves': WHATEVER THE INPUT: true; the input reads as it did. -/
def blendSolvesSpec : ChangeSpec := { name := "blendSolves", fn := fun _ => fun
  | [d] => { results := [.lit (.bool true)], args := [d] }
  | _ => none }
def blendSolvesRow : OpenClaim := { program := "ytkacpekakpbalaa", sum := "1cf044299d45b3529183673cf45a7e94e1e297294fa887fef74b320dd0992d0a", func := "linoleum/linoleumlaw04.BlendSolves", spec := "blendSolves", unfollowed := true, recurses := true, apart := false }
def BlendSolvesSaid : Prop := blendSolvesRow.holds Try.pinned (OpenSpec.ofChange blendSolvesSpec)

/-- ITS FALSE NEIGHBOUR: 'it returns false'. Refute it at one input. -/
def blendSolvesWrong : ChangeSpec := { name := "blendSolves", fn := fun _ => fun
  | [d] => { results := [.lit (.bool false)], args := [d] }
  | _ => none }
def BlendSolvesWrongFalsely : Prop := blendSolvesRow.holds Try.pinned (OpenSpec.ofChange blendSolvesWrong)

/-- 'linoleumlaw04.BlendMixes': WHATEVER THE INPUT: true; the input reads as it did. -/
def blendMixesSpec : ChangeSpec := { name := "blendMixes", fn := fun _ => fun
  | [d1, d2, d3] => { results := [.lit (.bool true)], args := [d1, d2, d3] }
  | _ => none }
def blendMixesRow : OpenClaim := { program := "ytkacpekakpbalaa", sum := "1cf044299d45b3529183673cf45a7e94e1e297294fa887fef74b320dd0992d0a", func := "linoleum/linoleumlaw04.BlendMixes", spec := "blendMixes", unfollowed := true, recurses := true, apart := false }
def BlendMixesSaid : Prop := blendMixesRow.holds Try.pinned (OpenSpec.ofChange blendMixesSpec)

/-- ITS FALSE NEIGHBOUR: 'it returns false'. Refute it at one input. -/
def blendMixesWrong : ChangeSpec := { name := "blendMixes", fn := fun _ => fun
  | [d1, d2, d3] => { results := [.lit (.bool false)], args := [d1, d2, d3] }
  | _ => none }
def BlendMixesWrongFalsely : Prop := blendMixesRow.holds Try.pinned (OpenSpec.ofChange blendMixesWrong)

/-- 'linoleumlaw04.BlendScales': WHATEVER THE INPUT: true; the input reads as it did. -/
def blendScalesSpec : ChangeSpec := { name := "blendScales", fn := fun _ => fun
  | [d1, d2, d3] => { results := [.lit (.bool true)], args := [d1, d2, d3] }
  | _ => none }
def blendScalesRow : OpenClaim := { program := "ytkacpekakpbalaa", sum := "1cf044299d45b3529183673cf45a7e94e1e297294fa887fef74b320dd0992d0a", func := "linoleum/linoleumlaw04.BlendScales", spec := "blendScales", unfollowed := true, recurses := true, apart := false }
def BlendScalesSaid : Prop := blendScalesRow.holds Try.pinned (OpenSpec.ofChange blendScalesSpec)

/-- ITS FALSE NEIGHBOUR: 'it returns false'. Refute it at one input. -/
def blendScalesWrong : ChangeSpec := { name := "blendScales", fn := fun _ => fun
  | [d1, d2, d3] => { results := [.lit (.bool false)], args := [d1, d2, d3] }
  | _ => none }
def BlendScalesWrongFalsely : Prop := blendScalesRow.holds Try.pinned (OpenSpec.ofChange blendScalesWrong)

/-- 'linoleumlaw04.BlendBounds': WHATEVER THE INPUT: true; the input reads as it did. -/
def blendBoundsSpec : ChangeSpec := { name := "blendBounds", fn := fun _ => fun
  | [d1, d2] => { results := [.lit (.bool true)], args := [d1, d2] }
  | _ => none }
def blendBoundsRow : OpenClaim := { program := "ytkacpekakpbalaa", sum := "1cf044299d45b3529183673cf45a7e94e1e297294fa887fef74b320dd0992d0a", func := "linoleum/linoleumlaw04.BlendBounds", spec := "blendBounds", unfollowed := true, recurses := true, apart := false }
def BlendBoundsSaid : Prop := blendBoundsRow.holds Try.pinned (OpenSpec.ofChange blendBoundsSpec)

/-- ITS FALSE NEIGHBOUR: 'it returns false'. Refute it at one input. -/
def blendBoundsWrong : ChangeSpec := { name := "blendBounds", fn := fun _ => fun
  | [d1, d2] => { results := [.lit (.bool false)], args := [d1, d2] }
  | _ => none }
def BlendBoundsWrongFalsely : Prop := blendBoundsRow.holds Try.pinned (OpenSpec.ofChange blendBoundsWrong)

/-- 'linoleumlaw04.BlendCosts': WHATEVER THE INPUT: true; the input reads as it did. -/
def blendCostsSpec : ChangeSpec := { name := "blendCosts", fn := fun _ => fun
  | [d1, d2, d3] => { results := [.lit (.bool true)], args := [d1, d2, d3] }
  | _ => none }
def blendCostsRow : OpenClaim := { program := "ytkacpekakpbalaa", sum := "1cf044299d45b3529183673cf45a7e94e1e297294fa887fef74b320dd0992d0a", func := "linoleum/linoleumlaw04.BlendCosts", spec := "blendCosts", unfollowed := true, recurses := true, apart := false }
def BlendCostsSaid : Prop := blendCostsRow.holds Try.pinned (OpenSpec.ofChange blendCostsSpec)

/-- ITS FALSE NEIGHBOUR: 'it returns false'. Refute it at one input. -/
def blendCostsWrong : ChangeSpec := { name := "blendCosts", fn := fun _ => fun
  | [d1, d2, d3] => { results := [.lit (.bool false)], args := [d1, d2, d3] }
  | _ => none }
def BlendCostsWrongFalsely : Prop := blendCostsRow.holds Try.pinned (OpenSpec.ofChange blendCostsWrong)

/-- 'linoleumlaw04.BlendWeak': WHATEVER THE INPUT: true; the input reads as it did. -/
def blendWeakSpec : ChangeSpec := { name := "blendWeak", fn := fun _ => fun
  | [d1, d2, d3] => { results := [.lit (.bool true)], args := [d1, d2, d3] }
  | _ => none }
def blendWeakRow : OpenClaim := { program := "ytkacpekakpbalaa", sum := "1cf044299d45b3529183673cf45a7e94e1e297294fa887fef74b320dd0992d0a", func := "linoleum/linoleumlaw04.BlendWeak", spec := "blendWeak", unfollowed := true, recurses := true, apart := false }
def BlendWeakSaid : Prop := blendWeakRow.holds Try.pinned (OpenSpec.ofChange blendWeakSpec)

/-- ITS FALSE NEIGHBOUR: 'it returns false'. Refute it at one input. -/
def blendWeakWrong : ChangeSpec := { name := "blendWeak", fn := fun _ => fun
  | [d1, d2, d3] => { results := [.lit (.bool false)], args := [d1, d2, d3] }
  | _ => none }
def BlendWeakWrongFalsely : Prop := blendWeakRow.holds Try.pinned (OpenSpec.ofChange blendWeakWrong)

/-- 'linoleumlaw04.BlendWidens': WHATEVER THE INPUT: true; the input reads as it did. -/
def blendWidensSpec : ChangeSpec := { name := "blendWidens", fn := fun _ => fun
  | [d1, d2] => { results := [.lit (.bool true)], args := [d1, d2] }
  | _ => none }
def blendWidensRow : OpenClaim := { program := "ytkacpekakpbalaa", sum := "1cf044299d45b3529183673cf45a7e94e1e297294fa887fef74b320dd0992d0a", func := "linoleum/linoleumlaw04.BlendWidens", spec := "blendWidens", unfollowed := true, recurses := true, apart := false }
def BlendWidensSaid : Prop := blendWidensRow.holds Try.pinned (OpenSpec.ofChange blendWidensSpec)

/-- ITS FALSE NEIGHBOUR: 'it returns false'. Refute it at one input. -/
def blendWidensWrong : ChangeSpec := { name := "blendWidens", fn := fun _ => fun
  | [d1, d2] => { results := [.lit (.bool false)], args := [d1, d2] }
  | _ => none }
def BlendWidensWrongFalsely : Prop := blendWidensRow.holds Try.pinned (OpenSpec.ofChange blendWidensWrong)

/-- 'linoleumlaw04.BlendChecks': WHATEVER THE INPUT: true; the input reads as it did. -/
def blendChecksSpec : ChangeSpec := { name := "blendChecks", fn := fun _ => fun
  | [d1, d2] => { results := [.lit (.bool true)], args := [d1, d2] }
  | _ => none }
def blendChecksRow : OpenClaim := { program := "ytkacpekakpbalaa", sum := "1cf044299d45b3529183673cf45a7e94e1e297294fa887fef74b320dd0992d0a", func := "linoleum/linoleumlaw04.BlendChecks", spec := "blendChecks", unfollowed := true, recurses := true, apart := false }
def BlendChecksSaid : Prop := blendChecksRow.holds Try.pinned (OpenSpec.ofChange blendChecksSpec)

/-- ITS FALSE NEIGHBOUR: 'it returns false'. Refute it at one input. -/
def blendChecksWrong : ChangeSpec := { name := "blendChecks", fn := fun _ => fun
  | [d1, d2] => { results := [.lit (.bool false)], args := [d1, d2] }
  | _ => none }
def BlendChecksWrongFalsely : Prop := blendChecksRow.holds Try.pinned (OpenSpec.ofChange blendChecksWrong)

/-- 'linoleumlaw04.BlendWithout': WHATEVER THE INPUT: true; the input reads as it did. -/
def blendWithoutSpec : ChangeSpec := { name := "blendWithout", fn := fun _ => fun
  | [d1, d2] => { results := [.lit (.bool true)], args := [d1, d2] }
  | _ => none }
def blendWithoutRow : OpenClaim := { program := "ytkacpekakpbalaa", sum := "1cf044299d45b3529183673cf45a7e94e1e297294fa887fef74b320dd0992d0a", func := "linoleum/linoleumlaw04.BlendWithout", spec := "blendWithout", unfollowed := true, recurses := true, apart := false }
def BlendWithoutSaid : Prop := blendWithoutRow.holds Try.pinned (OpenSpec.ofChange blendWithoutSpec)

/-- ITS FALSE NEIGHBOUR: 'it returns false'. Refute it at one input. -/
def blendWithoutWrong : ChangeSpec := { name := "blendWithout", fn := fun _ => fun
  | [d1, d2] => { results := [.lit (.bool false)], args := [d1, d2] }
  | _ => none }
def BlendWithoutWrongFalsely : Prop := blendWithoutRow.holds Try.pinned (OpenSpec.ofChange blendWithoutWrong)

/-- 'linoleumtop.TopBlends': WHATEVER THE INPUT: true; the input reads as it did. -/
def topBlendsSpec : ChangeSpec := { name := "topBlends", fn := fun _ => fun
  | [d1, d2, d3] => { results := [.lit (.bool true)], args := [d1, d2, d3] }
  | _ => none }
def topBlendsRow : OpenClaim := { program := "ytkacpekakpbalaa", sum := "1cf044299d45b3529183673cf45a7e94e1e297294fa887fef74b320dd0992d0a", func := "linoleum/linoleumtop.TopBlends", spec := "topBlends", unfollowed := true, recurses := true, apart := false }
def TopBlendsSaid : Prop := topBlendsRow.holds Try.pinned (OpenSpec.ofChange topBlendsSpec)

/-- ITS FALSE NEIGHBOUR: 'it returns false'. Refute it at one input. -/
def topBlendsWrong : ChangeSpec := { name := "topBlends", fn := fun _ => fun
  | [d1, d2, d3] => { results := [.lit (.bool false)], args := [d1, d2, d3] }
  | _ => none }
def TopBlendsWrongFalsely : Prop := topBlendsRow.holds Try.pinned (OpenSpec.ofChange topBlendsWrong)

/- THE SECOND FORM. 'bulk': how many values and letters a reading holds, each counted each time it is reached (what is shared counts as often as it is met; a slice's spare places count too). A statement '..UptoSaid' is the law's where the arguments, and the package variables that the reading takes, are together of bulk at most 1048576: NARROWER than '..Said'. Prove '..Said' where nothing that the law and all that it calls make is longer than what came in: it says more and counts as full. Else prove '..UptoSaid'. A law counts once. -/
mutual
def uptoBulk {H : Type} : DataW H → Nat
  | .lit (.string bytes) => bytes.length + 1
  | .lit _ => 1
  | .nil => 1
  | .ptr d => uptoBulk d + 1
  | .slice elems spare => uptoBulkAll elems + uptoBulkAll spare + 1
  | .agg parts => uptoBulkAll parts + 1
  | .iface _ d => uptoBulk d + 1
  | .map entries => uptoBulkEntries entries + 1
  | .held _ => 1
def uptoBulkAll {H : Type} : List (DataW H) → Nat
  | [] => 0
  | d :: r => uptoBulk d + uptoBulkAll r
def uptoBulkEntries {H : Type} : List (Lit × DataW H) → Nat
  | [] => 0
  | x :: r => uptoBulkEntry x + uptoBulkEntries r
def uptoBulkEntry {H : Type} : Lit × DataW H → Nat
  | (.string bytes, d) => bytes.length + uptoBulk d + 1
  | (_, d) => uptoBulk d + 1
 end
def uptoSmall : (H : Type) → List (DataW H) → Bool := fun _ ds => decide (uptoBulkAll ds ≤ 1048576)
def OpenSpec.upto (s : _root_.Go.ChangeSpec) : _root_.Go.OpenSpec := { _root_.Go.OpenSpec.ofChange s with cond := some uptoSmall }

/-- 'linoleumlaw04.BlendValidates', WHERE WHAT IT READS IS OF BULK AT MOST 1048576: true; the input reads as it did. -/
def blendValidatesUptoRow : OpenClaim := { program := "ytkacpekakpbalaa", sum := "1cf044299d45b3529183673cf45a7e94e1e297294fa887fef74b320dd0992d0a", func := "linoleum/linoleumlaw04.BlendValidates", spec := "blendValidates", unfollowed := true, recurses := true, apart := false, narrowed := true }
def BlendValidatesUptoSaid : Prop := blendValidatesUptoRow.holds Try.pinned (OpenSpec.upto blendValidatesSpec)

/-- 'linoleumlaw04.BlendLeast', WHERE WHAT IT READS IS OF BULK AT MOST 1048576: true; the input reads as it did. -/
def blendLeastUptoRow : OpenClaim := { program := "ytkacpekakpbalaa", sum := "1cf044299d45b3529183673cf45a7e94e1e297294fa887fef74b320dd0992d0a", func := "linoleum/linoleumlaw04.BlendLeast", spec := "blendLeast", unfollowed := true, recurses := true, apart := false, narrowed := true }
def BlendLeastUptoSaid : Prop := blendLeastUptoRow.holds Try.pinned (OpenSpec.upto blendLeastSpec)

/-- 'linoleumlaw04.BlendSolves', WHERE WHAT IT READS IS OF BULK AT MOST 1048576: true; the input reads as it did. -/
def blendSolvesUptoRow : OpenClaim := { program := "ytkacpekakpbalaa", sum := "1cf044299d45b3529183673cf45a7e94e1e297294fa887fef74b320dd0992d0a", func := "linoleum/linoleumlaw04.BlendSolves", spec := "blendSolves", unfollowed := true, recurses := true, apart := false, narrowed := true }
def BlendSolvesUptoSaid : Prop := blendSolvesUptoRow.holds Try.pinned (OpenSpec.upto blendSolvesSpec)

/-- 'linoleumlaw04.BlendMixes', WHERE WHAT IT READS IS OF BULK AT MOST 1048576: true; the input reads as it did. -/
def blendMixesUptoRow : OpenClaim := { program := "ytkacpekakpbalaa", sum := "1cf044299d45b3529183673cf45a7e94e1e297294fa887fef74b320dd0992d0a", func := "linoleum/linoleumlaw04.BlendMixes", spec := "blendMixes", unfollowed := true, recurses := true, apart := false, narrowed := true }
def BlendMixesUptoSaid : Prop := blendMixesUptoRow.holds Try.pinned (OpenSpec.upto blendMixesSpec)

/-- 'linoleumlaw04.BlendScales', WHERE WHAT IT READS IS OF BULK AT MOST 1048576: true; the input reads as it did. -/
def blendScalesUptoRow : OpenClaim := { program := "ytkacpekakpbalaa", sum := "1cf044299d45b3529183673cf45a7e94e1e297294fa887fef74b320dd0992d0a", func := "linoleum/linoleumlaw04.BlendScales", spec := "blendScales", unfollowed := true, recurses := true, apart := false, narrowed := true }
def BlendScalesUptoSaid : Prop := blendScalesUptoRow.holds Try.pinned (OpenSpec.upto blendScalesSpec)

/-- 'linoleumlaw04.BlendBounds', WHERE WHAT IT READS IS OF BULK AT MOST 1048576: true; the input reads as it did. -/
def blendBoundsUptoRow : OpenClaim := { program := "ytkacpekakpbalaa", sum := "1cf044299d45b3529183673cf45a7e94e1e297294fa887fef74b320dd0992d0a", func := "linoleum/linoleumlaw04.BlendBounds", spec := "blendBounds", unfollowed := true, recurses := true, apart := false, narrowed := true }
def BlendBoundsUptoSaid : Prop := blendBoundsUptoRow.holds Try.pinned (OpenSpec.upto blendBoundsSpec)

/-- 'linoleumlaw04.BlendCosts', WHERE WHAT IT READS IS OF BULK AT MOST 1048576: true; the input reads as it did. -/
def blendCostsUptoRow : OpenClaim := { program := "ytkacpekakpbalaa", sum := "1cf044299d45b3529183673cf45a7e94e1e297294fa887fef74b320dd0992d0a", func := "linoleum/linoleumlaw04.BlendCosts", spec := "blendCosts", unfollowed := true, recurses := true, apart := false, narrowed := true }
def BlendCostsUptoSaid : Prop := blendCostsUptoRow.holds Try.pinned (OpenSpec.upto blendCostsSpec)

/-- 'linoleumlaw04.BlendWeak', WHERE WHAT IT READS IS OF BULK AT MOST 1048576: true; the input reads as it did. -/
def blendWeakUptoRow : OpenClaim := { program := "ytkacpekakpbalaa", sum := "1cf044299d45b3529183673cf45a7e94e1e297294fa887fef74b320dd0992d0a", func := "linoleum/linoleumlaw04.BlendWeak", spec := "blendWeak", unfollowed := true, recurses := true, apart := false, narrowed := true }
def BlendWeakUptoSaid : Prop := blendWeakUptoRow.holds Try.pinned (OpenSpec.upto blendWeakSpec)

/-- 'linoleumlaw04.BlendWidens', WHERE WHAT IT READS IS OF BULK AT MOST 1048576: true; the input reads as it did. -/
def blendWidensUptoRow : OpenClaim := { program := "ytkacpekakpbalaa", sum := "1cf044299d45b3529183673cf45a7e94e1e297294fa887fef74b320dd0992d0a", func := "linoleum/linoleumlaw04.BlendWidens", spec := "blendWidens", unfollowed := true, recurses := true, apart := false, narrowed := true }
def BlendWidensUptoSaid : Prop := blendWidensUptoRow.holds Try.pinned (OpenSpec.upto blendWidensSpec)

/-- 'linoleumlaw04.BlendChecks', WHERE WHAT IT READS IS OF BULK AT MOST 1048576: true; the input reads as it did. -/
def blendChecksUptoRow : OpenClaim := { program := "ytkacpekakpbalaa", sum := "1cf044299d45b3529183673cf45a7e94e1e297294fa887fef74b320dd0992d0a", func := "linoleum/linoleumlaw04.BlendChecks", spec := "blendChecks", unfollowed := true, recurses := true, apart := false, narrowed := true }
def BlendChecksUptoSaid : Prop := blendChecksUptoRow.holds Try.pinned (OpenSpec.upto blendChecksSpec)

/-- 'linoleumlaw04.BlendWithout', WHERE WHAT IT READS IS OF BULK AT MOST 1048576: true; the input reads as it did. -/
def blendWithoutUptoRow : OpenClaim := { program := "ytkacpekakpbalaa", sum := "1cf044299d45b3529183673cf45a7e94e1e297294fa887fef74b320dd0992d0a", func := "linoleum/linoleumlaw04.BlendWithout", spec := "blendWithout", unfollowed := true, recurses := true, apart := false, narrowed := true }
def BlendWithoutUptoSaid : Prop := blendWithoutUptoRow.holds Try.pinned (OpenSpec.upto blendWithoutSpec)

/-- 'linoleumtop.TopBlends', WHERE WHAT IT READS IS OF BULK AT MOST 1048576: true; the input reads as it did. -/
def topBlendsUptoRow : OpenClaim := { program := "ytkacpekakpbalaa", sum := "1cf044299d45b3529183673cf45a7e94e1e297294fa887fef74b320dd0992d0a", func := "linoleum/linoleumtop.TopBlends", spec := "topBlends", unfollowed := true, recurses := true, apart := false, narrowed := true }
def TopBlendsUptoSaid : Prop := topBlendsUptoRow.holds Try.pinned (OpenSpec.upto topBlendsSpec)

end Rows
end Go.Proofs.Ytkacpekakpbalaa
