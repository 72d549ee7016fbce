/-
The machine's outside with the calls of the bases.
-/
import Derived.Test.YtkacpekakpbalaaESaneD
import Derived.Test.YtkacpekakpbalaaESaneE
import Derived.Test.YtkacpekakpbalaaESaneF
set_option linter.unusedSimpArgs false

namespace Go.AM.E
open Go Go.AM Go.RowKit Go.Proofs

def X2 : Ext := XK X1 (knownD ++ (knownE ++ knownF))
theorem rightDEF : Right (knownD ++ (knownE ++ knownF)) := right_app (allRun_right X1_ok rightD) (right_app (allRun_right X1_ok rightE) (allRun_right X1_ok rightF))
theorem X2_ok : ExtOk Try.prog X2 := XK_ok X1_ok rightDEF
end Go.AM.E
