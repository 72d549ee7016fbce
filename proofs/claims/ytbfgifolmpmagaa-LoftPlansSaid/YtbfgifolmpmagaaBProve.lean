/-
Proofs: windows, and the first of them.
-/
import Derived.Test.YtbfgifolmpmagaaBNeeds
import Derived.Test.YtbfgifolmpmagaaBLarge
set_option linter.unusedVariables false
set_option linter.unusedSimpArgs false

namespace Go.AM.B
open Go Go.AM Go.Proofs

section
variable (l : List Loft) (gs : List Goods)

end

end Go.AM.B

