/-
The law's sanity check, run by the kernel.
-/
import Derived.Test.YtbfgifolmpmagaaBSeq
set_option linter.unusedVariables false
set_option linter.unusedSimpArgs false

namespace Go.AM.B
open Go Go.AM Go.Proofs

def isT (r : Option V) : Bool := match r with
  | some (.bool b) => b
  | _ => false
theorem isT_eq {r : Option V} (h : isT r = true) : r = some (.bool true) := by
  unfold isT at h
  split at h
  · rw [h]
  · cases h

set_option maxRecDepth 100000 in
theorem sane_runs : isT ((orc E X0 80).call 25 []) = true := by decide +kernel

theorem c25 : (orcω E X0).call 25 [] = some (.bool true) := (orcω_le 80).call 25 [] _ (isT_eq sane_runs)
end Go.AM.B

