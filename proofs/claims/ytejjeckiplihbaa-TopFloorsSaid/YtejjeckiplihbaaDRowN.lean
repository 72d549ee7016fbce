/-
What rooms and lays look like as arguments.
-/
import Derived.Test.YtejjeckiplihbaaDRowM
import Derived.Test.YtejjeckiplihbaaDLayV
import Derived.Test.YtejjeckiplihbaaDRooms
set_option linter.unusedSimpArgs false
set_option maxRecDepth 20000

namespace Go.AM.D
open Go Go.Proofs

theorem has35 {n : Nat} {cs : List V} (h : HasC E n 35 cs) : ∃ r : Rect, pack true cs = encRect r := by
  cases n with
  | zero => exact h.elim
  | succ n =>
    simp only [HasC, ty35, ti35, List.map_cons, List.map_nil, HasFs] at h
    obtain ⟨x0, _, rfl, h0, x1, _, rfl, h1, x2, _, rfl, h2, x3, _, rfl, h3, rfl⟩ := h
    obtain ⟨v0, rfl, b0⟩ := has3 h0
    obtain ⟨v1, rfl, b1⟩ := has3 h1
    obtain ⟨v2, rfl, b2⟩ := has3 h2
    obtain ⟨v3, rfl, b3⟩ := has3 h3
    exact ⟨⟨v0, v1, v2, v3⟩, rfl⟩


theorem has22 {n : Nat} {cs : List V} (h : HasC E n 22 cs) : ∃ rs : List Rect, cs = [.sl false (rs.map encRect)] ∧ rs.length ≤ maxLen := by
  cases n with
  | zero => exact h.elim
  | succ n =>
    simp only [HasC, ty22, ti22] at h
    obtain ⟨vs, rfl, hl, hv⟩ := h
    obtain ⟨rs, rfl⟩ := list_of (enc := encRect) fun v hvm => by
      obtain ⟨ei, ds, hei, h, rfl⟩ := hv v hvm
      rw [ty35] at hei
      cases hei
      exact has35 h
    exact ⟨rs, rfl, by simpa using hl⟩


theorem has119 {n : Nat} {cs : List V} (h : HasC E n 119 cs) : ∃ r : Door, pack true cs = encDoor r := by
  cases n with
  | zero => exact h.elim
  | succ n =>
    simp only [HasC, ty119, ti119, List.map_cons, List.map_nil, HasFs] at h
    obtain ⟨x0, _, rfl, h0, x1, _, rfl, h1, x2, _, rfl, h2, rfl⟩ := h
    obtain ⟨v0, rfl, b0⟩ := has3 h0
    obtain ⟨v1, rfl, b1⟩ := has3 h1
    obtain ⟨v2, rfl, b2⟩ := has3 h2
    exact ⟨⟨v0, v1, v2⟩, rfl⟩


theorem has23 {n : Nat} {cs : List V} (h : HasC E n 23 cs) : ∃ rs : List Door, cs = [.sl false (rs.map encDoor)] ∧ rs.length ≤ maxLen := by
  cases n with
  | zero => exact h.elim
  | succ n =>
    simp only [HasC, ty23, ti23] at h
    obtain ⟨vs, rfl, hl, hv⟩ := h
    obtain ⟨rs, rfl⟩ := list_of (enc := encDoor) fun v hvm => by
      obtain ⟨ei, ds, hei, h, rfl⟩ := hv v hvm
      rw [ty119] at hei
      cases hei
      exact has119 h
    exact ⟨rs, rfl, by simpa using hl⟩


theorem has25 {n : Nat} {cs : List V} (h : HasC E n 25 cs) : ∃ r : Room, pack true cs = encRoom r := by
  cases n with
  | zero => exact h.elim
  | succ n =>
    simp only [HasC, ty25, ti25, List.map_cons, List.map_nil, HasFs] at h
    obtain ⟨x0, _, rfl, h0, x1, _, rfl, h1, rfl⟩ := h
    obtain ⟨v0, rfl, l0⟩ := has22 h0
    obtain ⟨v1, rfl, l1⟩ := has23 h1
    exact ⟨⟨v0, v1⟩, rfl⟩


theorem hasRoom {n : Nat} {v : V} (h : HasV E n 25 v) : ∃ r : Room, v = encRoom r := by
  obtain ⟨ti, ds, hti, h, rfl⟩ := h
  rw [ty25] at hti
  cases hti
  exact has25 h


theorem has53 {n : Nat} {cs : List V} (h : HasC E n 53 cs) : ∃ l : List Int, cs = [.sl false (l.map fun c => V.int .i64 c)] ∧ l.length ≤ maxLen := by
  cases n with
  | zero => exact h.elim
  | succ n =>
    simp only [HasC, ty53, ti53] at h
    obtain ⟨vs, rfl, hl, hv⟩ := h
    obtain ⟨rs, rfl⟩ := list_of (enc := fun c => V.int .i64 c) fun v hvm => by
      obtain ⟨ei, ds, hei, h, rfl⟩ := hv v hvm
      rw [ty3] at hei
      cases hei
      obtain ⟨i, rfl, _⟩ := has3 h
      exact ⟨i, rfl⟩
    exact ⟨rs, rfl, by simpa using hl⟩
theorem has63 {n : Nat} {cs : List V} (h : HasC E n 63 cs) : ∃ p : Pat, cs = [.int .i64 p.w, .int .i64 p.s, .int .i64 p.h, .sl false (p.cs.map fun c => V.int .i64 c)] := by
  cases n with
  | zero => exact h.elim
  | succ n =>
    simp only [HasC, ty63, ti63, List.map_cons, List.map_nil, HasFs] at h
    obtain ⟨x0, _, rfl, h0, x1, _, rfl, h1, x2, _, rfl, h2, x3, _, rfl, h3, rfl⟩ := h
    obtain ⟨v0, rfl, b0⟩ := has3 h0
    obtain ⟨v1, rfl, b1⟩ := has3 h1
    obtain ⟨v2, rfl, b2⟩ := has3 h2
    obtain ⟨v3, rfl, b3⟩ := has53 h3
    exact ⟨⟨v0, v1, v2, v3⟩, rfl⟩
theorem has66c {n : Nat} {cs : List V} (h : HasC E n 66 cs) : ∃ j : Job, cs = [.sl false (j.ss.map encStrip), .sl false (j.rs.map encRoll), .int .i64 j.rep] := by
  cases n with
  | zero => exact h.elim
  | succ n =>
    simp only [HasC, ty66, ti66, List.map_cons, List.map_nil, HasFs] at h
    obtain ⟨x0, _, rfl, h0, x1, _, rfl, h1, x2, _, rfl, h2, rfl⟩ := h
    obtain ⟨v0, rfl, l0⟩ := has30 h0
    obtain ⟨v1, rfl, l1⟩ := has64 h1
    obtain ⟨v2, rfl, b2⟩ := has3 h2
    exact ⟨⟨v0, v1, v2⟩, rfl⟩
theorem has69 {n : Nat} {cs : List V} (h : HasC E n 69 cs) : ∃ l : Lay, pack true cs = encLay l := by
  cases n with
  | zero => exact h.elim
  | succ n =>
    simp only [HasC, ty69, ti69, List.map_cons, List.map_nil, HasFs] at h
    obtain ⟨x0, _, rfl, h0, x1, _, rfl, h1, x2, _, rfl, h2, x3, _, rfl, h3, rfl⟩ := h
    obtain ⟨p, rfl⟩ := has63 h0
    obtain ⟨w, rfl, b1⟩ := has3 h1
    obtain ⟨j, rfl⟩ := has66c h2
    obtain ⟨cuts, rfl, b3⟩ := has67 h3
    exact ⟨⟨p, w, j, cuts⟩, rfl⟩
theorem hasLay {n : Nat} {v : V} (h : HasV E n 69 v) : ∃ l : Lay, v = encLay l := by
  obtain ⟨ti, ds, hti, h, rfl⟩ := h
  rw [ty69] at hti
  cases hti
  exact has69 h
end Go.AM.D
