/-
The machine's outside with the small calls.
-/
import Derived.Test.YtkacpekakpbalaaESaneA
import Derived.Test.YtkacpekakpbalaaESaneB
set_option linter.unusedSimpArgs false

namespace Go.AM.E
open Go Go.AM Go.RowKit Go.Proofs

def X1 : Ext := XK X0 (knownA ++ knownB)
theorem rightAB : Right (knownA ++ knownB) := right_app (allRun_right X0_ok rightA) (allRun_right X0_ok rightB)
theorem X1_ok : ExtOk Try.prog X1 := XK_ok X0_ok rightAB
end Go.AM.E
