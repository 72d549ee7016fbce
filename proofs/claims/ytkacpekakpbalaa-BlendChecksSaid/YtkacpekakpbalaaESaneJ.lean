/-
The machine's outside with the calls of the bases' best amounts.
-/
import Derived.Test.YtkacpekakpbalaaESaneH
import Derived.Test.YtkacpekakpbalaaESaneI
set_option linter.unusedSimpArgs false

namespace Go.AM.E
open Go Go.AM Go.RowKit Go.Proofs

def X3 : Ext := XK X2 (knownH ++ knownI)
theorem rightHI : Right (knownH ++ knownI) := right_app (allRun_right X2_ok rightH) (allRun_right X0_ok rightI)
theorem X3_ok : ExtOk Try.prog X3 := XK_ok X2_ok rightHI
end Go.AM.E
