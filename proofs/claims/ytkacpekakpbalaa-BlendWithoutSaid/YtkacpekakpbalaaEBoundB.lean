/-
The bound of prices, and which prices are a proof: the document, and the law.
-/
import Derived.Test.YtkacpekakpbalaaEBound
set_option linter.unusedVariables false
set_option linter.unusedSimpArgs false
set_option maxRecDepth 20000

namespace Go.AM.E
open Go Go.AM Go.Proofs

end Go.AM.E

