/-
What goods, loads and lists of hangings look like as arguments.
-/
import Derived.Test.YtbfgifolmpmagaaBRowT
import Derived.Test.YtbfgifolmpmagaaBTypes
set_option linter.unusedVariables false
set_option linter.unusedSimpArgs false

namespace Go.AM.B
open Go Go.Proofs

theorem has52 {n : Nat} {cs : List V} (h : HasC E n 52 cs) : ∃ r : Goods, pack true cs = encG r := by
  cases n with
  | zero => exact h.elim
  | succ n =>
    simp only [HasC, ty52, ti52, List.map_cons, List.map_nil, HasFs] at h
    obtain ⟨x0, _, rfl, h0, x1, _, rfl, h1, x2, _, rfl, h2, x3, _, rfl, h3, x4, _, rfl, h4, rfl⟩ := h
    obtain ⟨v0, rfl, b0⟩ := has3 h0
    obtain ⟨v1, rfl, b1⟩ := has3 h1
    obtain ⟨v2, rfl, b2⟩ := has3 h2
    obtain ⟨v3, rfl, b3⟩ := has3 h3
    obtain ⟨v4, rfl, b4⟩ := has3 h4
    exact ⟨⟨v0, v1, v2, v3, v4⟩, rfl⟩

theorem has66 {n : Nat} {cs : List V} (h : HasC E n 66 cs) : ∃ rs : List Goods, cs = [.sl false (rs.map encG)] ∧ rs.length ≤ maxLen := by
  cases n with
  | zero => exact h.elim
  | succ n =>
    simp only [HasC, ty66, ti66] at h
    obtain ⟨vs, rfl, hl, hv⟩ := h
    obtain ⟨rs, rfl⟩ := list_of (enc := encG) fun v hvm => by
      obtain ⟨ei, ds, hei, h, rfl⟩ := hv v hvm
      rw [ty52] at hei
      cases hei
      exact has52 h
    exact ⟨rs, rfl, by simpa using hl⟩

theorem hasWorks {n : Nat} {v : V} (h : HasV E n 68 v) : ∃ (l : List Loft) (g : List Goods), v = .agg [.sl false (l.map encL), .sl false (g.map encG)] := by
  obtain ⟨ti, ds, hti, h, rfl⟩ := h
  rw [ty68] at hti
  cases hti
  cases n with
  | zero => exact h.elim
  | succ n =>
    simp only [HasC, ty68, ti68, List.map_cons, List.map_nil, HasFs] at h
    obtain ⟨x0, _, rfl, h0, x1, _, rfl, h1, rfl⟩ := h
    obtain ⟨l, rfl, _⟩ := has43 h0
    obtain ⟨g, rfl, _⟩ := has66 h1
    exact ⟨l, g, rfl⟩

end Go.AM.B

