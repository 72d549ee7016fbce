import Derived.Test.YtffbfhjcpgcdeaaCRollZ
import Derived.Test.YtffbfhjcpgcdeaaCRollV
set_option linter.unusedVariables false
set_option linter.unusedSimpArgs false
set_option maxRecDepth 20000

namespace Go.AM.C
open Go Go.Proofs

def behind (l : List Art) (p q : Int × Int) : Prop := p.1 + lenAt l p.2 ≤ q.1

end Go.AM.C

