/-
What runs look like as arguments.
-/
import Derived.Test.YtbfgifolmpmagaaBRowT
import Derived.Test.YtbfgifolmpmagaaBP
set_option linter.unusedSimpArgs false

namespace Go.AM.B
open Go Go.Proofs

theorem has90 {n : Nat} {cs : List V} (h : HasC E n 90 cs) : ∃ a b c, cs = [.int .i64 a, .int .i64 b, .int .i64 c] := by
  cases n with
  | zero => exact h.elim
  | succ n =>
    simp only [HasC, ty90, ti90, List.map_cons, List.map_nil, HasFs] at h
    obtain ⟨x0, _, rfl, h0, x1, _, rfl, h1, x2, _, rfl, h2, rfl⟩ := h
    obtain ⟨a, rfl, _⟩ := has3 h0
    obtain ⟨b, rfl, _⟩ := has3 h1
    obtain ⟨c, rfl, _⟩ := has3 h2
    exact ⟨a, b, c, rfl⟩

theorem has125 {n : Nat} {cs : List V} (h : HasC E n 125 cs) : ∃ r : Run, pack true cs = encRun r := by
  cases n with
  | zero => exact h.elim
  | succ n =>
    simp only [HasC, ty125, ti125, List.map_cons, List.map_nil, HasFs] at h
    obtain ⟨x0, _, rfl, h0, x1, _, rfl, h1, rfl⟩ := h
    obtain ⟨v0, rfl, b0⟩ := has3 h0
    obtain ⟨v1_0, v1_1, v1_2, rfl⟩ := has90 h1
    exact ⟨⟨v0, v1_0, v1_1, v1_2⟩, rfl⟩

theorem has83 {n : Nat} {cs : List V} (h : HasC E n 83 cs) : ∃ rs : List Run, cs = [.sl false (rs.map encRun)] ∧ rs.length ≤ maxLen := by
  cases n with
  | zero => exact h.elim
  | succ n =>
    simp only [HasC, ty83, ti83] at h
    obtain ⟨vs, rfl, hl, hv⟩ := h
    obtain ⟨rs, rfl⟩ := list_of (enc := encRun) fun v hvm => by
      obtain ⟨ei, ds, hei, h, rfl⟩ := hv v hvm
      rw [ty125] at hei
      cases hei
      exact has125 h
    exact ⟨rs, rfl, by simpa using hl⟩

theorem hasRuns {n : Nat} {v : V} (h : HasV E n 83 v) : ∃ rs : List Run, v = .sl false (rs.map encRun) ∧ rs.length ≤ maxLen := by
  obtain ⟨ti, ds, hti, h, rfl⟩ := h
  rw [ty83] at hti
  cases hti
  obtain ⟨rs, rfl, h2⟩ := has83 h
  exact ⟨rs, rfl, h2⟩
end Go.AM.B
