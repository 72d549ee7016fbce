/-
Pieces of the reference's plan: the order, sets with one more number, a load of goods alone.
-/
import Derived.Test.YtbfgifolmpmagaaBPlanP
import Derived.Test.YtbfgifolmpmagaaBLarge
set_option linter.unusedVariables false
set_option linter.unusedSimpArgs false

namespace Go.AM.B
open Go Go.AM Go.Proofs

theorem ixs_len (n : Nat) : (ixs n).length = n := by simp [ixs]
theorem ixs_succ (n : Nat) : ixs (n + 1) = ixs n ++ [(n : Int)] := by simp [ixs, List.range_succ]
abbrev TL := Load × Bool × Bool
def loadsOf (ts : List TL) : List Load := ts.map (·.1)
end Go.AM.B

