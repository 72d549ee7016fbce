/-
What jobs and cuts look like as arguments.
-/
import Derived.Test.YtejjeckiplihbaaDJobP
import Derived.Test.YtejjeckiplihbaaDRowT
set_option linter.unusedSimpArgs false
set_option maxRecDepth 20000

namespace Go.AM.D
open Go Go.Proofs

theorem has41R {n : Nat} {cs : List V} (h : HasC E n 41 cs) : ∃ r : Roll, pack true cs = encRoll r := by
  cases n with
  | zero => exact h.elim
  | succ n =>
    simp only [HasC, ty41, ti41, List.map_cons, List.map_nil, HasFs] at h
    obtain ⟨x0, _, rfl, h0, x1, _, rfl, h1, x2, _, rfl, h2, rfl⟩ := h
    obtain ⟨v0, rfl, b0⟩ := has3 h0
    obtain ⟨v1, rfl, b1⟩ := has3 h1
    obtain ⟨v2, rfl, b2⟩ := has3 h2
    exact ⟨⟨v0, v1, v2⟩, rfl⟩
theorem has64 {n : Nat} {cs : List V} (h : HasC E n 64 cs) : ∃ rs : List Roll, cs = [.sl false (rs.map encRoll)] ∧ rs.length ≤ maxLen := by
  cases n with
  | zero => exact h.elim
  | succ n =>
    simp only [HasC, ty64, ti64] at h
    obtain ⟨vs, rfl, hl, hv⟩ := h
    obtain ⟨rs, rfl⟩ := list_of (enc := encRoll) fun v hvm => by
      obtain ⟨ei, ds, hei, h, rfl⟩ := hv v hvm
      rw [ty41] at hei
      cases hei
      exact has41R h
    exact ⟨rs, rfl, by simpa using hl⟩
theorem has66 {n : Nat} {cs : List V} (h : HasC E n 66 cs) : ∃ j : Job, pack true cs = encJob j ∧ j.ss.length ≤ maxLen ∧ j.rs.length ≤ maxLen := by
  cases n with
  | zero => exact h.elim
  | succ n =>
    simp only [HasC, ty66, ti66, List.map_cons, List.map_nil, HasFs] at h
    obtain ⟨x0, _, rfl, h0, x1, _, rfl, h1, x2, _, rfl, h2, rfl⟩ := h
    obtain ⟨v0, rfl, l0⟩ := has30 h0
    obtain ⟨v1, rfl, l1⟩ := has64 h1
    obtain ⟨v2, rfl, b2⟩ := has3 h2
    exact ⟨⟨v0, v1, v2⟩, rfl, l0, l1⟩
theorem has131 {n : Nat} {cs : List V} (h : HasC E n 131 cs) : ∃ r : Cut, pack true cs = encCut r := by
  cases n with
  | zero => exact h.elim
  | succ n =>
    simp only [HasC, ty131, ti131, List.map_cons, List.map_nil, HasFs] at h
    obtain ⟨x0, _, rfl, h0, x1, _, rfl, h1, x2, _, rfl, h2, rfl⟩ := h
    obtain ⟨v0, rfl, b0⟩ := has3 h0
    obtain ⟨v1, rfl, b1⟩ := has3 h1
    obtain ⟨v2, rfl, b2⟩ := has3 h2
    exact ⟨⟨v0, v1, v2⟩, rfl⟩
theorem has67 {n : Nat} {cs : List V} (h : HasC E n 67 cs) : ∃ rs : List Cut, cs = [.sl false (rs.map encCut)] ∧ rs.length ≤ maxLen := by
  cases n with
  | zero => exact h.elim
  | succ n =>
    simp only [HasC, ty67, ti67] at h
    obtain ⟨vs, rfl, hl, hv⟩ := h
    obtain ⟨rs, rfl⟩ := list_of (enc := encCut) fun v hvm => by
      obtain ⟨ei, ds, hei, h, rfl⟩ := hv v hvm
      rw [ty131] at hei
      cases hei
      exact has131 h
    exact ⟨rs, rfl, by simpa using hl⟩
theorem hasOrder {n : Nat} {v : V} (h : HasV E n 66 v) : ∃ j : Job, v = encJob j := by
  obtain ⟨ti, ds, hti, h, rfl⟩ := h
  rw [ty66] at hti
  cases hti
  obtain ⟨j, h1, h2, h3⟩ := has66 h
  exact ⟨j, h1⟩
theorem hasCuts {n : Nat} {v : V} (h : HasV E n 67 v) : ∃ rs : List Cut, v = .sl false (rs.map encCut) ∧ rs.length ≤ maxLen := by
  obtain ⟨ti, ds, hti, h, rfl⟩ := h
  rw [ty67] at hti
  cases hti
  obtain ⟨rs, rfl, hl⟩ := has67 h
  exact ⟨rs, rfl, hl⟩
theorem hasRoll {n : Nat} {v : V} (h : HasV E n 41 v) : ∃ r : Roll, v = encRoll r := by
  obtain ⟨ti, ds, hti, h, rfl⟩ := h
  rw [ty41] at hti
  cases hti
  exact has41R h
end Go.AM.D
