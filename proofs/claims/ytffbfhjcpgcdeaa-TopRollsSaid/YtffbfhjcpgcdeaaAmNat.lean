/-
Loops that count.
-/
import Derived.Test.YtffbfhjcpgcdeaaAmR
set_option linter.unusedVariables false
set_option linter.unusedSimpArgs false

namespace Go.AM
open Go

section
variable {E : Env} {X : Ext} {fc : FC} {base : Nat} {b : Code}

end
end Go.AM

