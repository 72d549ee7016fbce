import Derived.Test.YtffbfhjcpgcdeaaCRollV
set_option linter.unusedVariables false
set_option linter.unusedSimpArgs false
set_option maxRecDepth 20000

namespace Go.AM.C
open Go Go.Proofs

def inP (l : List Art) (ps : List (Int × Int)) (x : Int) : Prop := ∃ p ∈ ps, p.1 ≤ x ∧ x < p.1 + lenAt l p.2

end Go.AM.C

