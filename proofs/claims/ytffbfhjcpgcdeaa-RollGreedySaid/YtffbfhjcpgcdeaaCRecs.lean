/-
The rolls of a cutting.
-/
import Derived.Test.YtffbfhjcpgcdeaaCTopP
import Derived.Test.YtffbfhjcpgcdeaaAmBad
set_option linter.unusedVariables false
set_option linter.unusedSimpArgs false
set_option maxRecDepth 20000

namespace Go.AM.C
open Go Go.Proofs

end Go.AM.C

