import Derived.Test.YtffbfhjcpgcdeaaCRollU
set_option linter.unusedVariables false
set_option linter.unusedSimpArgs false
set_option maxRecDepth 20000

namespace Go.AM.C
open Go Go.Proofs

theorem bestR_ok {xs : List Run} {l : List Art} (he : errM xs l = 0) : bestR xs l = (bestPs (expand xs) l, topW (expand xs) l, 0) := by
  unfold bestR topW; rw [if_pos he]

end Go.AM.C

