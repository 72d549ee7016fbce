/-
Sums and multiples of amounts (plain).
-/
import Derived.Test.YtkacpekakpbalaaECheckB
set_option linter.unusedVariables false
set_option linter.unusedSimpArgs false
set_option maxRecDepth 20000

namespace Go.AM.E
open Go

theorem inBounds_iff {b : Blend} {xs : List Int} {den : Int} {k : Nat} : inBounds b xs den k = true ↔ b.lo.getD k 0 * (b.tot * den) ≤ propM b xs k ∧ propM b xs k ≤ b.hi.getD k 0 * (b.tot * den) := inB_iff

theorem mul_lt_iff {k a b : Int} (hk : 0 < k) : k * a < k * b ↔ a < b := ⟨fun h => by
  by_cases hab : a < b
  · exact hab
  · have := Int.mul_le_mul_of_nonneg_left (show b ≤ a by omega) (show 0 ≤ k by omega)
    omega, fun h => Int.mul_lt_mul_of_pos_left h hk⟩
theorem mul_le_iff {k a b : Int} (hk : 0 < k) : k * a ≤ k * b ↔ a ≤ b := by
  have := mul_lt_iff (a := b) (b := a) hk
  omega
end Go.AM.E

