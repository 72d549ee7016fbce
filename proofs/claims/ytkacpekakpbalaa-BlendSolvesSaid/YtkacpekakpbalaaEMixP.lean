/-
Sums and multiples of amounts (plain).
-/
import Derived.Test.YtkacpekakpbalaaECheckB
set_option linter.unusedVariables false
set_option linter.unusedSimpArgs false
set_option maxRecDepth 20000

namespace Go.AM.E
open Go

theorem inBounds_iff {b : Blend} {xs : List Int} {den : Int} {k : Nat} : inBounds b xs den k = true ↔ b.lo.getD k 0 * (b.tot * den) ≤ propM b xs k ∧ propM b xs k ≤ b.hi.getD k 0 * (b.tot * den) := inB_iff

end Go.AM.E

