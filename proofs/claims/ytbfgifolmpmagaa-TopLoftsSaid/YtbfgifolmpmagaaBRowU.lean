/-
What goods, loads and lists of hangings look like as arguments.
-/
import Derived.Test.YtbfgifolmpmagaaBRowT
import Derived.Test.YtbfgifolmpmagaaBTypes
set_option linter.unusedVariables false
set_option linter.unusedSimpArgs false

namespace Go.AM.B
open Go Go.Proofs

theorem has52 {n : Nat} {cs : List V} (h : HasC E n 52 cs) : ∃ r : Goods, pack true cs = encG r := by
  cases n with
  | zero => exact h.elim
  | succ n =>
    simp only [HasC, ty52, ti52, List.map_cons, List.map_nil, HasFs] at h
    obtain ⟨x0, _, rfl, h0, x1, _, rfl, h1, x2, _, rfl, h2, x3, _, rfl, h3, x4, _, rfl, h4, rfl⟩ := h
    obtain ⟨v0, rfl, b0⟩ := has3 h0
    obtain ⟨v1, rfl, b1⟩ := has3 h1
    obtain ⟨v2, rfl, b2⟩ := has3 h2
    obtain ⟨v3, rfl, b3⟩ := has3 h3
    obtain ⟨v4, rfl, b4⟩ := has3 h4
    exact ⟨⟨v0, v1, v2, v3, v4⟩, rfl⟩

theorem has66 {n : Nat} {cs : List V} (h : HasC E n 66 cs) : ∃ rs : List Goods, cs = [.sl false (rs.map encG)] ∧ rs.length ≤ maxLen := by
  cases n with
  | zero => exact h.elim
  | succ n =>
    simp only [HasC, ty66, ti66] at h
    obtain ⟨vs, rfl, hl, hv⟩ := h
    obtain ⟨rs, rfl⟩ := list_of (enc := encG) fun v hvm => by
      obtain ⟨ei, ds, hei, h, rfl⟩ := hv v hvm
      rw [ty52] at hei
      cases hei
      exact has52 h
    exact ⟨rs, rfl, by simpa using hl⟩

theorem has118 {n : Nat} {cs : List V} (h : HasC E n 118 cs) : ∃ r : Load, pack true cs = encLd r := by
  cases n with
  | zero => exact h.elim
  | succ n =>
    simp only [HasC, ty118, ti118, List.map_cons, List.map_nil, HasFs] at h
    obtain ⟨x0, _, rfl, h0, x1, _, rfl, h1, x2, _, rfl, h2, x3, _, rfl, h3, rfl⟩ := h
    obtain ⟨v0, rfl, b0⟩ := has3 h0
    obtain ⟨v1, rfl, b1⟩ := has3 h1
    obtain ⟨v2, rfl, l2, b2⟩ := has24 h2
    obtain ⟨v3, rfl, l3, b3⟩ := has24 h3
    exact ⟨⟨v0, v1, v2, v3⟩, rfl⟩

theorem has94 {n : Nat} {cs : List V} (h : HasC E n 94 cs) : ∃ rs : List Load, cs = [.sl false (rs.map encLd)] ∧ rs.length ≤ maxLen := by
  cases n with
  | zero => exact h.elim
  | succ n =>
    simp only [HasC, ty94, ti94] at h
    obtain ⟨vs, rfl, hl, hv⟩ := h
    obtain ⟨rs, rfl⟩ := list_of (enc := encLd) fun v hvm => by
      obtain ⟨ei, ds, hei, h, rfl⟩ := hv v hvm
      rw [ty118] at hei
      cases hei
      exact has118 h
    exact ⟨rs, rfl, by simpa using hl⟩

theorem has70 {n : Nat} {cs : List V} (h : HasC E n 70 cs) : ∃ a b, cs = [.int .i64 a, .int .i64 b] := by
  cases n with
  | zero => exact h.elim
  | succ n =>
    simp only [HasC, ty70, ti70, List.map_cons, List.map_nil, HasFs] at h
    obtain ⟨x0, _, rfl, h0, x1, _, rfl, h1, rfl⟩ := h
    obtain ⟨a, rfl, _⟩ := has3 h0
    obtain ⟨b, rfl, _⟩ := has3 h1
    exact ⟨a, b, rfl⟩

theorem hasWorks {n : Nat} {v : V} (h : HasV E n 68 v) : ∃ (l : List Loft) (g : List Goods), v = .agg [.sl false (l.map encL), .sl false (g.map encG)] := by
  obtain ⟨ti, ds, hti, h, rfl⟩ := h
  rw [ty68] at hti
  cases hti
  cases n with
  | zero => exact h.elim
  | succ n =>
    simp only [HasC, ty68, ti68, List.map_cons, List.map_nil, HasFs] at h
    obtain ⟨x0, _, rfl, h0, x1, _, rfl, h1, rfl⟩ := h
    obtain ⟨l, rfl, _⟩ := has43 h0
    obtain ⟨g, rfl, _⟩ := has66 h1
    exact ⟨l, g, rfl⟩

theorem hasLoads {n : Nat} {v : V} (h : HasV E n 94 v) : ∃ rs : List Load, v = .sl false (rs.map encLd) ∧ rs.length ≤ maxLen := by
  obtain ⟨ti, ds, hti, h, rfl⟩ := h
  rw [ty94] at hti
  cases hti
  obtain ⟨rs, rfl, h2⟩ := has94 h
  exact ⟨rs, rfl, h2⟩

theorem hasSpan {n : Nat} {v : V} (h : HasV E n 70 v) : ∃ a b : Int, v = .agg [.int .i64 a, .int .i64 b] := by
  obtain ⟨ti, ds, hti, h, rfl⟩ := h
  rw [ty70] at hti
  cases hti
  obtain ⟨a, b, rfl⟩ := has70 h
  exact ⟨a, b, rfl⟩
end Go.AM.B

