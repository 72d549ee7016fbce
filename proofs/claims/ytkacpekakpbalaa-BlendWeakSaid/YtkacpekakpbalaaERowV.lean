/-
What prices look like as arguments.
-/
import Derived.Test.YtkacpekakpbalaaEPrice
import Derived.Test.YtkacpekakpbalaaERowU
set_option linter.unusedSimpArgs false

namespace Go.AM.E
open Go Go.Proofs

theorem has37 {n : Nat} {cs : List V} (h : HasC E n 37 cs) : ∃ r : Pr, pack true cs = encPr r := by
  cases n with
  | zero => exact h.elim
  | succ n =>
    simp only [HasC, ty37, ti37, List.map_cons, List.map_nil, HasFs] at h
    obtain ⟨x0, _, rfl, h0, x1, _, rfl, h1, x2, _, rfl, h2, x3, _, rfl, h3, x4, _, rfl, h4, rfl⟩ := h
    obtain ⟨v0, rfl, b0⟩ := has3 h0
    obtain ⟨v1, rfl, b1⟩ := has3 h1
    obtain ⟨v2, rfl, l2, b2⟩ := has23 h2
    obtain ⟨v3, rfl, l3, b3⟩ := has23 h3
    obtain ⟨v4, rfl, l4, b4⟩ := has23 h4
    exact ⟨⟨v0, v1, v2, v3, v4⟩, rfl⟩

theorem hasPrices {n : Nat} {v : V} (h : HasV E n 37 v) : ∃ r : Pr, v = encPr r := by
  obtain ⟨ti, ds, hti, h, rfl⟩ := h
  rw [ty37] at hti
  cases hti
  exact has37 h

end Go.AM.E
