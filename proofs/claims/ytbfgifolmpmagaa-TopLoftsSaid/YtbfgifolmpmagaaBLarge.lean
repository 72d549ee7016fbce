/-
What is too large for a row, and what goods and lofts without error keep.
-/
import Derived.Test.YtbfgifolmpmagaaBDays
set_option linter.unusedVariables false
set_option linter.unusedSimpArgs false

namespace Go.AM.B
open Go Go.AM Go.Proofs

theorem both_facts {l : List Loft} {gs : List Goods} (h : bothE l gs = 0) : (∀ f ∈ l, loftOk f = true) ∧ l.length ≤ 1000 ∧ (∀ g ∈ gs, goodsOk g = true) ∧ gs.length ≤ 1000 := by
  obtain ⟨h1, h2⟩ := bothE_zero h
  obtain ⟨a1, a2⟩ := validLs_zero h1
  obtain ⟨b1, b2⟩ := goodsE_zero h2
  exact ⟨a2, by omega, b2, by omega⟩

end Go.AM.B

