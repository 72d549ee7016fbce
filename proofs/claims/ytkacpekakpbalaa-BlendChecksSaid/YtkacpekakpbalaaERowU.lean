/-
What amounts look like as arguments.
-/
import Derived.Test.YtkacpekakpbalaaEAmts
import Derived.Test.YtkacpekakpbalaaERowT
set_option linter.unusedSimpArgs false

namespace Go.AM.E
open Go Go.Proofs

theorem has35 {n : Nat} {cs : List V} (h : HasC E n 35 cs) : ∃ r : Amts, pack true cs = encAmts r := by
  cases n with
  | zero => exact h.elim
  | succ n =>
    simp only [HasC, ty35, ti35, List.map_cons, List.map_nil, HasFs] at h
    obtain ⟨x0, _, rfl, h0, x1, _, rfl, h1, rfl⟩ := h
    obtain ⟨v0, rfl, b0⟩ := has3 h0
    obtain ⟨v1, rfl, l1, b1⟩ := has23 h1
    exact ⟨⟨v0, v1⟩, rfl⟩

theorem hasAmounts {n : Nat} {v : V} (h : HasV E n 35 v) : ∃ r : Amts, v = encAmts r := by
  obtain ⟨ti, ds, hti, h, rfl⟩ := h
  rw [ty35] at hti
  cases hti
  exact has35 h

end Go.AM.E

