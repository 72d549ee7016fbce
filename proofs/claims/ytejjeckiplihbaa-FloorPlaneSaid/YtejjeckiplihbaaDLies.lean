/-
Where a strip lies.
-/
import Derived.Test.YtejjeckiplihbaaDLines
set_option linter.unusedSimpArgs false
set_option maxRecDepth 20000

namespace Go.AM.D
open Go

theorem lies_iff {w x y : Int} {s : Strip} : lies w x y s = true ↔ s.x ≤ x ∧ x < s.x + w ∧ s.a ≤ y ∧ y < s.b := by
  unfold lies
  simp [and_assoc]
theorem lies_no {w x y : Int} {s : Strip} (h : ¬ (s.x ≤ x ∧ x < s.x + w ∧ s.a ≤ y ∧ y < s.b)) : lies w x y s = false := by
  rw [Bool.eq_false_iff]
  exact fun hh => h (lies_iff.1 hh)
end Go.AM.D
