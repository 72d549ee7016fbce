import Derived.Test.YtffbfhjcpgcdeaaCRollW
set_option linter.unusedVariables false
set_option linter.unusedSimpArgs false
set_option maxRecDepth 20000

namespace Go.AM.C
open Go Go.Proofs

structure Outs (l : List Art) (ps : List (Int × Int)) (i : Nat) (o : List (Int × Int)) : Prop where
  sep : Sep o
  low : ∀ s ∈ o, 0 ≤ s.1 ∧ s.2 ≤ (i : Int)
  cov : ∀ x, covers o x ↔ (0 ≤ x ∧ x < (i : Int) ∧ ¬ inP l ps x)
  len : o.length ≤ i

end Go.AM.C

