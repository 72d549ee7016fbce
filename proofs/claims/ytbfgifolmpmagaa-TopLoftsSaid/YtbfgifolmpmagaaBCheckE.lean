/-
Loads: their errors by themselves, as the reference finds them.
-/
import Derived.Test.YtbfgifolmpmagaaBCheckD
set_option linter.unusedVariables false
set_option linter.unusedSimpArgs false

namespace Go.AM.B
open Go Go.AM Go.Proofs

def byM (l : List Loft) (gs : List Goods) (x : Load) : Int :=
  if inB x.loft 0 (l.length - 1) = false then 5 else
  if (!inB x.start 0 60 || (!validHs x.heats || (x.goods.isEmpty || !isSetM x.goods gs.length))) = true then 1 else aloneM l gs (seeM l gs x)

theorem isSet_in {l : List Int} {n : Int} (h : isSetM l n = true) : ∀ x ∈ l, 0 ≤ x ∧ x < n := set_in h

end Go.AM.B

