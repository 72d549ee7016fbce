/-
Which amounts keep the conditions: the document, and the checks of all of it.
-/
import Derived.Test.YtkacpekakpbalaaECheck
set_option linter.unusedVariables false
set_option linter.unusedSimpArgs false
set_option maxRecDepth 20000

namespace Go.AM.E
open Go Go.AM Go.Proofs

def checkE (b : Blend) (a : Amts) : Int := if errV b = 0 then (if rightM b a = true then brokenE b a else 1) else 1
theorem checkE_zero {b : Blend} {a : Amts} (h : checkE b a = 0) : Valid b ∧ RightA b a ∧ brokenE b a = 0 := by
  unfold checkE at h
  split at h
  · rename_i h1
    split at h
    · rename_i h2
      exact ⟨errV_zero h1, rightM_iff.1 h2, h⟩
    · cases h
  · cases h
theorem brokenE_zero {b : Blend} {a : Amts} (h : brokenE b a = 0) : Stocked b a ∧ sumX a.x b.cs.length = b.tot * a.den ∧ keptB b a.x a.den = true := by
  unfold brokenE at h
  split at h
  · cases h
  · rename_i h1
    split at h
    · cases h
    · rename_i h2
      split at h
      · rename_i h3
        exact ⟨short_iff.1 (by simpa using h1), by simpa using h2, h3⟩
      · cases h

end Go.AM.E

