/-
What goods need, and which windows are a proof.
-/
import Derived.Test.YtbfgifolmpmagaaBDays
set_option linter.unusedVariables false
set_option linter.unusedSimpArgs false

namespace Go.AM.B
open Go Go.AM Go.Proofs

section
variable (l : List Loft) (gs : List Goods)

end

section
variable (l : List Loft) (gs : List Goods) (a b : Int)

end
end Go.AM.B

