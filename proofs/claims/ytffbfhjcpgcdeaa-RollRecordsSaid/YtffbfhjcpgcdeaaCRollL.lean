import Derived.Test.YtffbfhjcpgcdeaaCRollK
set_option linter.unusedVariables false
set_option linter.unusedSimpArgs false
set_option maxRecDepth 20000

namespace Go.AM.C
open Go Go.Proofs

end Go.AM.C

