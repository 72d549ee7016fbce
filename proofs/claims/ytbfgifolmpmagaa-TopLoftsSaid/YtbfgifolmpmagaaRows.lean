/-
  No cell of these rows narrows 'for every input' (looked for: loops, veiled, ifaces, maps, wideKeys, modest, calm, conditions, laid).
  DERIVED. THE GIVEN ROWS OF THIS SEAT. 13 by the template 'for every input the law returns true; each argument reads behind the call as it read before'; 0 by the template 'total and deterministic' (their statements: YtbfgifolmpmagaaTotals.lean).
  GIVEN WITH THE SEED: the statements are not yours to turn. If you find one false, say at which input.
  Laid BY PROGRAM, IN A SANDBOX (cutbox-rows.mjs): the forced cells as the released guide's own fill.sh prints them over the translation 392d5abff00d3935… (all of the seat's roots in one cut). By AI agents, Wed Nov 11 2026. No macro, syntax, notation, axiom, sorry.
-/
import Derived.Test.YtbfgifolmpmagaaChecked
import GoSem.Claim
import GoSem.ClaimJoined
import GoSem.ClaimMapViews
import Derived.JoinedTies
import Derived.KernelRfl
namespace Go.Proofs.Ytbfgifolmpmagaa
/- THE CELL 'sum', in the pinned program and in every row, IS THE sha256 OF THE DUMP (.gsa) THAT YtbfgifolmpmagaaProg.lean LOADS. Nothing in Lean hashes anything: it is a label: what it is worth is what the hold of that sum in a sandbox is worth. -/
noncomputable def Try.pinned : Pinned := { name := "ytbfgifolmpmagaa", sum := "392d5abff00d3935b52175b604fa7ad0f58f1e24abc31010c4cc431d506509d4", checked := Try.checked }
namespace Rows
def none {H : Type} : Left H := { results := [], args := [] }

/-- 'linoleumlaw06.LoftHangs': WHATEVER THE INPUT: true; the input reads as it did. -/
def loftHangsSpec : ChangeSpec := { name := "loftHangs", fn := fun _ => fun
  | [d1, d2, d3] => { results := [.lit (.bool true)], args := [d1, d2, d3] }
  | _ => none }
def loftHangsRow : OpenClaim := { program := "ytbfgifolmpmagaa", sum := "392d5abff00d3935b52175b604fa7ad0f58f1e24abc31010c4cc431d506509d4", func := "linoleum/linoleumlaw06.LoftHangs", spec := "loftHangs", recurses := true, plainKeys := false, apart := false }
def LoftHangsSaid : Prop := loftHangsRow.holds Try.pinned (OpenSpec.ofChange loftHangsSpec)

/-- ITS FALSE NEIGHBOUR: 'it returns false'. Refute it at one input. -/
def loftHangsWrong : ChangeSpec := { name := "loftHangs", fn := fun _ => fun
  | [d1, d2, d3] => { results := [.lit (.bool false)], args := [d1, d2, d3] }
  | _ => none }
def LoftHangsWrongFalsely : Prop := loftHangsRow.holds Try.pinned (OpenSpec.ofChange loftHangsWrong)

/-- 'linoleumlaw06.LoftHeats': WHATEVER THE INPUT: true; the input reads as it did. -/
def loftHeatsSpec : ChangeSpec := { name := "loftHeats", fn := fun _ => fun
  | [d1, d2, d3] => { results := [.lit (.bool true)], args := [d1, d2, d3] }
  | _ => none }
def loftHeatsRow : OpenClaim := { program := "ytbfgifolmpmagaa", sum := "392d5abff00d3935b52175b604fa7ad0f58f1e24abc31010c4cc431d506509d4", func := "linoleum/linoleumlaw06.LoftHeats", spec := "loftHeats", recurses := true, plainKeys := false, apart := false }
def LoftHeatsSaid : Prop := loftHeatsRow.holds Try.pinned (OpenSpec.ofChange loftHeatsSpec)

/-- ITS FALSE NEIGHBOUR: 'it returns false'. Refute it at one input. -/
def loftHeatsWrong : ChangeSpec := { name := "loftHeats", fn := fun _ => fun
  | [d1, d2, d3] => { results := [.lit (.bool false)], args := [d1, d2, d3] }
  | _ => none }
def LoftHeatsWrongFalsely : Prop := loftHeatsRow.holds Try.pinned (OpenSpec.ofChange loftHeatsWrong)

/-- 'linoleumlaw06.LoftPrograms': WHATEVER THE INPUT: true; the input reads as it did. -/
def loftProgramsSpec : ChangeSpec := { name := "loftPrograms", fn := fun _ => fun
  | [d1, d2, d3] => { results := [.lit (.bool true)], args := [d1, d2, d3] }
  | _ => none }
def loftProgramsRow : OpenClaim := { program := "ytbfgifolmpmagaa", sum := "392d5abff00d3935b52175b604fa7ad0f58f1e24abc31010c4cc431d506509d4", func := "linoleum/linoleumlaw06.LoftPrograms", spec := "loftPrograms", recurses := true, plainKeys := false, apart := false }
def LoftProgramsSaid : Prop := loftProgramsRow.holds Try.pinned (OpenSpec.ofChange loftProgramsSpec)

/-- ITS FALSE NEIGHBOUR: 'it returns false'. Refute it at one input. -/
def loftProgramsWrong : ChangeSpec := { name := "loftPrograms", fn := fun _ => fun
  | [d1, d2, d3] => { results := [.lit (.bool false)], args := [d1, d2, d3] }
  | _ => none }
def LoftProgramsWrongFalsely : Prop := loftProgramsRow.holds Try.pinned (OpenSpec.ofChange loftProgramsWrong)

/-- 'linoleumlaw06.LoftDays': WHATEVER THE INPUT: true; the input reads as it did. -/
def loftDaysSpec : ChangeSpec := { name := "loftDays", fn := fun _ => fun
  | [d1, d2] => { results := [.lit (.bool true)], args := [d1, d2] }
  | _ => none }
def loftDaysRow : OpenClaim := { program := "ytbfgifolmpmagaa", sum := "392d5abff00d3935b52175b604fa7ad0f58f1e24abc31010c4cc431d506509d4", func := "linoleum/linoleumlaw06.LoftDays", spec := "loftDays", recurses := true, plainKeys := false, apart := false }
def LoftDaysSaid : Prop := loftDaysRow.holds Try.pinned (OpenSpec.ofChange loftDaysSpec)

/-- ITS FALSE NEIGHBOUR: 'it returns false'. Refute it at one input. -/
def loftDaysWrong : ChangeSpec := { name := "loftDays", fn := fun _ => fun
  | [d1, d2] => { results := [.lit (.bool false)], args := [d1, d2] }
  | _ => none }
def LoftDaysWrongFalsely : Prop := loftDaysRow.holds Try.pinned (OpenSpec.ofChange loftDaysWrong)

/-- 'linoleumlaw06.LoftEvens': WHATEVER THE INPUT: true; the input reads as it did. -/
def loftEvensSpec : ChangeSpec := { name := "loftEvens", fn := fun _ => fun
  | [d1, d2] => { results := [.lit (.bool true)], args := [d1, d2] }
  | _ => none }
def loftEvensRow : OpenClaim := { program := "ytbfgifolmpmagaa", sum := "392d5abff00d3935b52175b604fa7ad0f58f1e24abc31010c4cc431d506509d4", func := "linoleum/linoleumlaw06.LoftEvens", spec := "loftEvens", recurses := true, plainKeys := false, apart := false }
def LoftEvensSaid : Prop := loftEvensRow.holds Try.pinned (OpenSpec.ofChange loftEvensSpec)

/-- ITS FALSE NEIGHBOUR: 'it returns false'. Refute it at one input. -/
def loftEvensWrong : ChangeSpec := { name := "loftEvens", fn := fun _ => fun
  | [d1, d2] => { results := [.lit (.bool false)], args := [d1, d2] }
  | _ => none }
def LoftEvensWrongFalsely : Prop := loftEvensRow.holds Try.pinned (OpenSpec.ofChange loftEvensWrong)

/-- 'linoleumlaw06.LoftRipens': WHATEVER THE INPUT: true; the input reads as it did. -/
def loftRipensSpec : ChangeSpec := { name := "loftRipens", fn := fun _ => fun
  | [d1, d2, d3] => { results := [.lit (.bool true)], args := [d1, d2, d3] }
  | _ => none }
def loftRipensRow : OpenClaim := { program := "ytbfgifolmpmagaa", sum := "392d5abff00d3935b52175b604fa7ad0f58f1e24abc31010c4cc431d506509d4", func := "linoleum/linoleumlaw06.LoftRipens", spec := "loftRipens", recurses := true, plainKeys := false, apart := false }
def LoftRipensSaid : Prop := loftRipensRow.holds Try.pinned (OpenSpec.ofChange loftRipensSpec)

/-- ITS FALSE NEIGHBOUR: 'it returns false'. Refute it at one input. -/
def loftRipensWrong : ChangeSpec := { name := "loftRipens", fn := fun _ => fun
  | [d1, d2, d3] => { results := [.lit (.bool false)], args := [d1, d2, d3] }
  | _ => none }
def LoftRipensWrongFalsely : Prop := loftRipensRow.holds Try.pinned (OpenSpec.ofChange loftRipensWrong)

/-- 'linoleumlaw06.LoftMore': WHATEVER THE INPUT: true; the input reads as it did. -/
def loftMoreSpec : ChangeSpec := { name := "loftMore", fn := fun _ => fun
  | [d1, d2, d3] => { results := [.lit (.bool true)], args := [d1, d2, d3] }
  | _ => none }
def loftMoreRow : OpenClaim := { program := "ytbfgifolmpmagaa", sum := "392d5abff00d3935b52175b604fa7ad0f58f1e24abc31010c4cc431d506509d4", func := "linoleum/linoleumlaw06.LoftMore", spec := "loftMore", recurses := true, plainKeys := false, apart := false }
def LoftMoreSaid : Prop := loftMoreRow.holds Try.pinned (OpenSpec.ofChange loftMoreSpec)

/-- ITS FALSE NEIGHBOUR: 'it returns false'. Refute it at one input. -/
def loftMoreWrong : ChangeSpec := { name := "loftMore", fn := fun _ => fun
  | [d1, d2, d3] => { results := [.lit (.bool false)], args := [d1, d2, d3] }
  | _ => none }
def LoftMoreWrongFalsely : Prop := loftMoreRow.holds Try.pinned (OpenSpec.ofChange loftMoreWrong)

/-- 'linoleumlaw06.LoftProofs': WHATEVER THE INPUT: true; the input reads as it did. -/
def loftProofsSpec : ChangeSpec := { name := "loftProofs", fn := fun _ => fun
  | [d1, d2] => { results := [.lit (.bool true)], args := [d1, d2] }
  | _ => none }
def loftProofsRow : OpenClaim := { program := "ytbfgifolmpmagaa", sum := "392d5abff00d3935b52175b604fa7ad0f58f1e24abc31010c4cc431d506509d4", func := "linoleum/linoleumlaw06.LoftProofs", spec := "loftProofs", recurses := true, plainKeys := false, apart := false }
def LoftProofsSaid : Prop := loftProofsRow.holds Try.pinned (OpenSpec.ofChange loftProofsSpec)

/-- ITS FALSE NEIGHBOUR: 'it returns false'. Refute it at one input. -/
def loftProofsWrong : ChangeSpec := { name := "loftProofs", fn := fun _ => fun
  | [d1, d2] => { results := [.lit (.bool false)], args := [d1, d2] }
  | _ => none }
def LoftProofsWrongFalsely : Prop := loftProofsRow.holds Try.pinned (OpenSpec.ofChange loftProofsWrong)

/-- 'linoleumlaw06.LoftChalks': WHATEVER THE INPUT: true; the input reads as it did. -/
def loftChalksSpec : ChangeSpec := { name := "loftChalks", fn := fun _ => fun
  | [d1, d2] => { results := [.lit (.bool true)], args := [d1, d2] }
  | _ => none }
def loftChalksRow : OpenClaim := { program := "ytbfgifolmpmagaa", sum := "392d5abff00d3935b52175b604fa7ad0f58f1e24abc31010c4cc431d506509d4", func := "linoleum/linoleumlaw06.LoftChalks", spec := "loftChalks", unfollowed := true, recurses := true, plainKeys := false, apart := false }
def LoftChalksSaid : Prop := loftChalksRow.holds Try.pinned (OpenSpec.ofChange loftChalksSpec)

/-- ITS FALSE NEIGHBOUR: 'it returns false'. Refute it at one input. -/
def loftChalksWrong : ChangeSpec := { name := "loftChalks", fn := fun _ => fun
  | [d1, d2] => { results := [.lit (.bool false)], args := [d1, d2] }
  | _ => none }
def LoftChalksWrongFalsely : Prop := loftChalksRow.holds Try.pinned (OpenSpec.ofChange loftChalksWrong)

/-- 'linoleumlaw06.LoftChecks': WHATEVER THE INPUT: true; the input reads as it did. -/
def loftChecksSpec : ChangeSpec := { name := "loftChecks", fn := fun _ => fun
  | [d1, d2] => { results := [.lit (.bool true)], args := [d1, d2] }
  | _ => none }
def loftChecksRow : OpenClaim := { program := "ytbfgifolmpmagaa", sum := "392d5abff00d3935b52175b604fa7ad0f58f1e24abc31010c4cc431d506509d4", func := "linoleum/linoleumlaw06.LoftChecks", spec := "loftChecks", unfollowed := true, recurses := true, plainKeys := false, apart := false }
def LoftChecksSaid : Prop := loftChecksRow.holds Try.pinned (OpenSpec.ofChange loftChecksSpec)

/-- ITS FALSE NEIGHBOUR: 'it returns false'. Refute it at one input. -/
def loftChecksWrong : ChangeSpec := { name := "loftChecks", fn := fun _ => fun
  | [d1, d2] => { results := [.lit (.bool false)], args := [d1, d2] }
  | _ => none }
def LoftChecksWrongFalsely : Prop := loftChecksRow.holds Try.pinned (OpenSpec.ofChange loftChecksWrong)

/-- 'linoleumlaw06.LoftPlans': WHATEVER THE INPUT: true; the input reads as it did. -/
def loftPlansSpec : ChangeSpec := { name := "loftPlans", fn := fun _ => fun
  | [d] => { results := [.lit (.bool true)], args := [d] }
  | _ => none }
def loftPlansRow : OpenClaim := { program := "ytbfgifolmpmagaa", sum := "392d5abff00d3935b52175b604fa7ad0f58f1e24abc31010c4cc431d506509d4", func := "linoleum/linoleumlaw06.LoftPlans", spec := "loftPlans", unfollowed := true, recurses := true, plainKeys := false, apart := false }
def LoftPlansSaid : Prop := loftPlansRow.holds Try.pinned (OpenSpec.ofChange loftPlansSpec)

/-- ITS FALSE NEIGHBOUR: 'it returns false'. Refute it at one input. -/
def loftPlansWrong : ChangeSpec := { name := "loftPlans", fn := fun _ => fun
  | [d] => { results := [.lit (.bool false)], args := [d] }
  | _ => none }
def LoftPlansWrongFalsely : Prop := loftPlansRow.holds Try.pinned (OpenSpec.ofChange loftPlansWrong)

/-- 'linoleumlaw06.LoftExcludes': WHATEVER THE INPUT: true; the input reads as it did. -/
def loftExcludesSpec : ChangeSpec := { name := "loftExcludes", fn := fun _ => fun
  | [d1, d2, d3] => { results := [.lit (.bool true)], args := [d1, d2, d3] }
  | _ => none }
def loftExcludesRow : OpenClaim := { program := "ytbfgifolmpmagaa", sum := "392d5abff00d3935b52175b604fa7ad0f58f1e24abc31010c4cc431d506509d4", func := "linoleum/linoleumlaw06.LoftExcludes", spec := "loftExcludes", unfollowed := true, recurses := true, plainKeys := false, apart := false }
def LoftExcludesSaid : Prop := loftExcludesRow.holds Try.pinned (OpenSpec.ofChange loftExcludesSpec)

/-- ITS FALSE NEIGHBOUR: 'it returns false'. Refute it at one input. -/
def loftExcludesWrong : ChangeSpec := { name := "loftExcludes", fn := fun _ => fun
  | [d1, d2, d3] => { results := [.lit (.bool false)], args := [d1, d2, d3] }
  | _ => none }
def LoftExcludesWrongFalsely : Prop := loftExcludesRow.holds Try.pinned (OpenSpec.ofChange loftExcludesWrong)

/-- 'linoleumtop.TopLofts': WHATEVER THE INPUT: true; the input reads as it did. -/
def topLoftsSpec : ChangeSpec := { name := "topLofts", fn := fun _ => fun
  | [d1, d2, d3] => { results := [.lit (.bool true)], args := [d1, d2, d3] }
  | _ => none }
def topLoftsRow : OpenClaim := { program := "ytbfgifolmpmagaa", sum := "392d5abff00d3935b52175b604fa7ad0f58f1e24abc31010c4cc431d506509d4", func := "linoleum/linoleumtop.TopLofts", spec := "topLofts", unfollowed := true, recurses := true, plainKeys := false, apart := false }
def TopLoftsSaid : Prop := topLoftsRow.holds Try.pinned (OpenSpec.ofChange topLoftsSpec)

/-- ITS FALSE NEIGHBOUR: 'it returns false'. Refute it at one input. -/
def topLoftsWrong : ChangeSpec := { name := "topLofts", fn := fun _ => fun
  | [d1, d2, d3] => { results := [.lit (.bool false)], args := [d1, d2, d3] }
  | _ => none }
def TopLoftsWrongFalsely : Prop := topLoftsRow.holds Try.pinned (OpenSpec.ofChange topLoftsWrong)

/- THE SECOND FORM. 'bulk': how many values and letters a reading holds, each counted each time it is reached (what is shared counts as often as it is met; a slice's spare places count too). A statement '..UptoSaid' is the law's where the arguments, and the package variables that the reading takes, are together of bulk at most 1048576: NARROWER than '..Said'. Prove '..Said' where nothing that the law and all that it calls make is longer than what came in: it says more and counts as full. Else prove '..UptoSaid'. A law counts once. -/
mutual
def uptoBulk {H : Type} : DataW H → Nat
  | .lit (.string bytes) => bytes.length + 1
  | .lit _ => 1
  | .nil => 1
  | .ptr d => uptoBulk d + 1
  | .slice elems spare => uptoBulkAll elems + uptoBulkAll spare + 1
  | .agg parts => uptoBulkAll parts + 1
  | .iface _ d => uptoBulk d + 1
  | .map entries => uptoBulkEntries entries + 1
  | .held _ => 1
def uptoBulkAll {H : Type} : List (DataW H) → Nat
  | [] => 0
  | d :: r => uptoBulk d + uptoBulkAll r
def uptoBulkEntries {H : Type} : List (Lit × DataW H) → Nat
  | [] => 0
  | x :: r => uptoBulkEntry x + uptoBulkEntries r
def uptoBulkEntry {H : Type} : Lit × DataW H → Nat
  | (.string bytes, d) => bytes.length + uptoBulk d + 1
  | (_, d) => uptoBulk d + 1
 end
def uptoSmall : (H : Type) → List (DataW H) → Bool := fun _ ds => decide (uptoBulkAll ds ≤ 1048576)
def OpenSpec.upto (s : _root_.Go.ChangeSpec) : _root_.Go.OpenSpec := { _root_.Go.OpenSpec.ofChange s with cond := some uptoSmall }

/-- 'linoleumlaw06.LoftHangs', WHERE WHAT IT READS IS OF BULK AT MOST 1048576: true; the input reads as it did. -/
def loftHangsUptoRow : OpenClaim := { program := "ytbfgifolmpmagaa", sum := "392d5abff00d3935b52175b604fa7ad0f58f1e24abc31010c4cc431d506509d4", func := "linoleum/linoleumlaw06.LoftHangs", spec := "loftHangs", recurses := true, plainKeys := false, apart := false, narrowed := true }
def LoftHangsUptoSaid : Prop := loftHangsUptoRow.holds Try.pinned (OpenSpec.upto loftHangsSpec)

/-- 'linoleumlaw06.LoftHeats', WHERE WHAT IT READS IS OF BULK AT MOST 1048576: true; the input reads as it did. -/
def loftHeatsUptoRow : OpenClaim := { program := "ytbfgifolmpmagaa", sum := "392d5abff00d3935b52175b604fa7ad0f58f1e24abc31010c4cc431d506509d4", func := "linoleum/linoleumlaw06.LoftHeats", spec := "loftHeats", recurses := true, plainKeys := false, apart := false, narrowed := true }
def LoftHeatsUptoSaid : Prop := loftHeatsUptoRow.holds Try.pinned (OpenSpec.upto loftHeatsSpec)

/-- 'linoleumlaw06.LoftPrograms', WHERE WHAT IT READS IS OF BULK AT MOST 1048576: true; the input reads as it did. -/
def loftProgramsUptoRow : OpenClaim := { program := "ytbfgifolmpmagaa", sum := "392d5abff00d3935b52175b604fa7ad0f58f1e24abc31010c4cc431d506509d4", func := "linoleum/linoleumlaw06.LoftPrograms", spec := "loftPrograms", recurses := true, plainKeys := false, apart := false, narrowed := true }
def LoftProgramsUptoSaid : Prop := loftProgramsUptoRow.holds Try.pinned (OpenSpec.upto loftProgramsSpec)

/-- 'linoleumlaw06.LoftDays', WHERE WHAT IT READS IS OF BULK AT MOST 1048576: true; the input reads as it did. -/
def loftDaysUptoRow : OpenClaim := { program := "ytbfgifolmpmagaa", sum := "392d5abff00d3935b52175b604fa7ad0f58f1e24abc31010c4cc431d506509d4", func := "linoleum/linoleumlaw06.LoftDays", spec := "loftDays", recurses := true, plainKeys := false, apart := false, narrowed := true }
def LoftDaysUptoSaid : Prop := loftDaysUptoRow.holds Try.pinned (OpenSpec.upto loftDaysSpec)

/-- 'linoleumlaw06.LoftEvens', WHERE WHAT IT READS IS OF BULK AT MOST 1048576: true; the input reads as it did. -/
def loftEvensUptoRow : OpenClaim := { program := "ytbfgifolmpmagaa", sum := "392d5abff00d3935b52175b604fa7ad0f58f1e24abc31010c4cc431d506509d4", func := "linoleum/linoleumlaw06.LoftEvens", spec := "loftEvens", recurses := true, plainKeys := false, apart := false, narrowed := true }
def LoftEvensUptoSaid : Prop := loftEvensUptoRow.holds Try.pinned (OpenSpec.upto loftEvensSpec)

/-- 'linoleumlaw06.LoftRipens', WHERE WHAT IT READS IS OF BULK AT MOST 1048576: true; the input reads as it did. -/
def loftRipensUptoRow : OpenClaim := { program := "ytbfgifolmpmagaa", sum := "392d5abff00d3935b52175b604fa7ad0f58f1e24abc31010c4cc431d506509d4", func := "linoleum/linoleumlaw06.LoftRipens", spec := "loftRipens", recurses := true, plainKeys := false, apart := false, narrowed := true }
def LoftRipensUptoSaid : Prop := loftRipensUptoRow.holds Try.pinned (OpenSpec.upto loftRipensSpec)

/-- 'linoleumlaw06.LoftMore', WHERE WHAT IT READS IS OF BULK AT MOST 1048576: true; the input reads as it did. -/
def loftMoreUptoRow : OpenClaim := { program := "ytbfgifolmpmagaa", sum := "392d5abff00d3935b52175b604fa7ad0f58f1e24abc31010c4cc431d506509d4", func := "linoleum/linoleumlaw06.LoftMore", spec := "loftMore", recurses := true, plainKeys := false, apart := false, narrowed := true }
def LoftMoreUptoSaid : Prop := loftMoreUptoRow.holds Try.pinned (OpenSpec.upto loftMoreSpec)

/-- 'linoleumlaw06.LoftProofs', WHERE WHAT IT READS IS OF BULK AT MOST 1048576: true; the input reads as it did. -/
def loftProofsUptoRow : OpenClaim := { program := "ytbfgifolmpmagaa", sum := "392d5abff00d3935b52175b604fa7ad0f58f1e24abc31010c4cc431d506509d4", func := "linoleum/linoleumlaw06.LoftProofs", spec := "loftProofs", recurses := true, plainKeys := false, apart := false, narrowed := true }
def LoftProofsUptoSaid : Prop := loftProofsUptoRow.holds Try.pinned (OpenSpec.upto loftProofsSpec)

/-- 'linoleumlaw06.LoftChalks', WHERE WHAT IT READS IS OF BULK AT MOST 1048576: true; the input reads as it did. -/
def loftChalksUptoRow : OpenClaim := { program := "ytbfgifolmpmagaa", sum := "392d5abff00d3935b52175b604fa7ad0f58f1e24abc31010c4cc431d506509d4", func := "linoleum/linoleumlaw06.LoftChalks", spec := "loftChalks", unfollowed := true, recurses := true, plainKeys := false, apart := false, narrowed := true }
def LoftChalksUptoSaid : Prop := loftChalksUptoRow.holds Try.pinned (OpenSpec.upto loftChalksSpec)

/-- 'linoleumlaw06.LoftChecks', WHERE WHAT IT READS IS OF BULK AT MOST 1048576: true; the input reads as it did. -/
def loftChecksUptoRow : OpenClaim := { program := "ytbfgifolmpmagaa", sum := "392d5abff00d3935b52175b604fa7ad0f58f1e24abc31010c4cc431d506509d4", func := "linoleum/linoleumlaw06.LoftChecks", spec := "loftChecks", unfollowed := true, recurses := true, plainKeys := false, apart := false, narrowed := true }
def LoftChecksUptoSaid : Prop := loftChecksUptoRow.holds Try.pinned (OpenSpec.upto loftChecksSpec)

/-- 'linoleumlaw06.LoftPlans', WHERE WHAT IT READS IS OF BULK AT MOST 1048576: true; the input reads as it did. -/
def loftPlansUptoRow : OpenClaim := { program := "ytbfgifolmpmagaa", sum := "392d5abff00d3935b52175b604fa7ad0f58f1e24abc31010c4cc431d506509d4", func := "linoleum/linoleumlaw06.LoftPlans", spec := "loftPlans", unfollowed := true, recurses := true, plainKeys := false, apart := false, narrowed := true }
def LoftPlansUptoSaid : Prop := loftPlansUptoRow.holds Try.pinned (OpenSpec.upto loftPlansSpec)

/-- 'linoleumlaw06.LoftExcludes', WHERE WHAT IT READS IS OF BULK AT MOST 1048576: true; the input reads as it did. -/
def loftExcludesUptoRow : OpenClaim := { program := "ytbfgifolmpmagaa", sum := "392d5abff00d3935b52175b604fa7ad0f58f1e24abc31010c4cc431d506509d4", func := "linoleum/linoleumlaw06.LoftExcludes", spec := "loftExcludes", unfollowed := true, recurses := true, plainKeys := false, apart := false, narrowed := true }
def LoftExcludesUptoSaid : Prop := loftExcludesUptoRow.holds Try.pinned (OpenSpec.upto loftExcludesSpec)

/-- 'linoleumtop.TopLofts', WHERE WHAT IT READS IS OF BULK AT MOST 1048576: true; the input reads as it did. -/
def topLoftsUptoRow : OpenClaim := { program := "ytbfgifolmpmagaa", sum := "392d5abff00d3935b52175b604fa7ad0f58f1e24abc31010c4cc431d506509d4", func := "linoleum/linoleumtop.TopLofts", spec := "topLofts", unfollowed := true, recurses := true, plainKeys := false, apart := false, narrowed := true }
def TopLoftsUptoSaid : Prop := topLoftsUptoRow.holds Try.pinned (OpenSpec.upto topLoftsSpec)

end Rows
end Go.Proofs.Ytbfgifolmpmagaa
