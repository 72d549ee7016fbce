/-
What the arguments of the rows look like.
-/
import Derived.Test.YtejjeckiplihbaaDNext
import Derived.Test.YtejjeckiplihbaaDLawA
import Derived.Test.YtejjeckiplihbaaAmR
import Derived.Test.YtejjeckiplihbaaRows
set_option linter.unusedSimpArgs false
set_option maxRecDepth 20000

namespace Go.AM.D
open Go Go.Proofs

theorem has3 {n : Nat} {cs : List V} (h : HasC E n 3 cs) : ∃ i, cs = [.int .i64 i] ∧ -9223372036854775808 ≤ i ∧ i ≤ 9223372036854775807 := by
  cases n with
  | zero => exact h.elim
  | succ n => simp only [HasC, ty3, ti3] at h; exact h

theorem list_of {α : Type} {enc : α → V} {vs : List V} (h : ∀ v ∈ vs, ∃ r : α, v = enc r) : ∃ rs : List α, vs = rs.map enc := by
  induction vs with
  | nil => exact ⟨[], rfl⟩
  | cons v vs ih =>
    obtain ⟨r, rfl⟩ := h v List.mem_cons_self
    obtain ⟨rs, rfl⟩ := ih fun u hu => h u (List.mem_cons_of_mem _ hu)
    exact ⟨r :: rs, rfl⟩

theorem has35 {n : Nat} {cs : List V} (h : HasC E n 35 cs) : ∃ r : Rect, pack true cs = encRect r := by
  cases n with
  | zero => exact h.elim
  | succ n =>
    simp only [HasC, ty35, ti35, List.map_cons, List.map_nil, HasFs] at h
    obtain ⟨x0, _, rfl, h0, x1, _, rfl, h1, x2, _, rfl, h2, x3, _, rfl, h3, rfl⟩ := h
    obtain ⟨v0, rfl, b0⟩ := has3 h0
    obtain ⟨v1, rfl, b1⟩ := has3 h1
    obtain ⟨v2, rfl, b2⟩ := has3 h2
    obtain ⟨v3, rfl, b3⟩ := has3 h3
    exact ⟨⟨v0, v1, v2, v3⟩, rfl⟩

theorem has22 {n : Nat} {cs : List V} (h : HasC E n 22 cs) : ∃ rs : List Rect, cs = [.sl false (rs.map encRect)] ∧ rs.length ≤ maxLen := by
  cases n with
  | zero => exact h.elim
  | succ n =>
    simp only [HasC, ty22, ti22] at h
    obtain ⟨vs, rfl, hl, hv⟩ := h
    obtain ⟨rs, rfl⟩ := list_of (enc := encRect) fun v hvm => by
      obtain ⟨ei, ds, hei, h, rfl⟩ := hv v hvm
      rw [ty35] at hei
      cases hei
      exact has35 h
    exact ⟨rs, rfl, by simpa using hl⟩

theorem has119 {n : Nat} {cs : List V} (h : HasC E n 119 cs) : ∃ r : Door, pack true cs = encDoor r := by
  cases n with
  | zero => exact h.elim
  | succ n =>
    simp only [HasC, ty119, ti119, List.map_cons, List.map_nil, HasFs] at h
    obtain ⟨x0, _, rfl, h0, x1, _, rfl, h1, x2, _, rfl, h2, rfl⟩ := h
    obtain ⟨v0, rfl, b0⟩ := has3 h0
    obtain ⟨v1, rfl, b1⟩ := has3 h1
    obtain ⟨v2, rfl, b2⟩ := has3 h2
    exact ⟨⟨v0, v1, v2⟩, rfl⟩

theorem has23 {n : Nat} {cs : List V} (h : HasC E n 23 cs) : ∃ rs : List Door, cs = [.sl false (rs.map encDoor)] ∧ rs.length ≤ maxLen := by
  cases n with
  | zero => exact h.elim
  | succ n =>
    simp only [HasC, ty23, ti23] at h
    obtain ⟨vs, rfl, hl, hv⟩ := h
    obtain ⟨rs, rfl⟩ := list_of (enc := encDoor) fun v hvm => by
      obtain ⟨ei, ds, hei, h, rfl⟩ := hv v hvm
      rw [ty119] at hei
      cases hei
      exact has119 h
    exact ⟨rs, rfl, by simpa using hl⟩

theorem has25 {n : Nat} {cs : List V} (h : HasC E n 25 cs) : ∃ r : Room, pack true cs = encRoom r := by
  cases n with
  | zero => exact h.elim
  | succ n =>
    simp only [HasC, ty25, ti25, List.map_cons, List.map_nil, HasFs] at h
    obtain ⟨x0, _, rfl, h0, x1, _, rfl, h1, rfl⟩ := h
    obtain ⟨v0, rfl, l0⟩ := has22 h0
    obtain ⟨v1, rfl, l1⟩ := has23 h1
    exact ⟨⟨v0, v1⟩, rfl⟩

theorem has38 {n : Nat} {cs : List V} (h : HasC E n 38 cs) : ∃ r : Strip, pack true cs = encStrip r := by
  cases n with
  | zero => exact h.elim
  | succ n =>
    simp only [HasC, ty38, ti38, List.map_cons, List.map_nil, HasFs] at h
    obtain ⟨x0, _, rfl, h0, x1, _, rfl, h1, x2, _, rfl, h2, rfl⟩ := h
    obtain ⟨v0, rfl, b0⟩ := has3 h0
    obtain ⟨v1, rfl, b1⟩ := has3 h1
    obtain ⟨v2, rfl, b2⟩ := has3 h2
    exact ⟨⟨v0, v1, v2⟩, rfl⟩

theorem has30 {n : Nat} {cs : List V} (h : HasC E n 30 cs) : ∃ rs : List Strip, cs = [.sl false (rs.map encStrip)] ∧ rs.length ≤ maxLen := by
  cases n with
  | zero => exact h.elim
  | succ n =>
    simp only [HasC, ty30, ti30] at h
    obtain ⟨vs, rfl, hl, hv⟩ := h
    obtain ⟨rs, rfl⟩ := list_of (enc := encStrip) fun v hvm => by
      obtain ⟨ei, ds, hei, h, rfl⟩ := hv v hvm
      rw [ty38] at hei
      cases hei
      exact has38 h
    exact ⟨rs, rfl, by simpa using hl⟩

theorem has41 {n : Nat} {cs : List V} (h : HasC E n 41 cs) : ∃ a b c, cs = [.int .i64 a, .int .i64 b, .int .i64 c] := by
  cases n with
  | zero => exact h.elim
  | succ n =>
    simp only [HasC, ty41, ti41, List.map_cons, List.map_nil, HasFs] at h
    obtain ⟨x0, _, rfl, h0, x1, _, rfl, h1, x2, _, rfl, h2, rfl⟩ := h
    obtain ⟨a, rfl, _⟩ := has3 h0
    obtain ⟨b, rfl, _⟩ := has3 h1
    obtain ⟨c, rfl, _⟩ := has3 h2
    exact ⟨a, b, c, rfl⟩

theorem has43 {n : Nat} {cs : List V} (h : HasC E n 43 cs) : ∃ r : Start, pack true cs = encStart r := by
  cases n with
  | zero => exact h.elim
  | succ n =>
    simp only [HasC, ty43, ti43, List.map_cons, List.map_nil, HasFs] at h
    obtain ⟨x0, _, rfl, h0, x1, _, rfl, h1, x2, _, rfl, h2, rfl⟩ := h
    obtain ⟨v0_0, v0_1, v0_2, rfl⟩ := has41 h0
    obtain ⟨v1, rfl, b1⟩ := has3 h1
    obtain ⟨v2, rfl, b2⟩ := has3 h2
    exact ⟨⟨⟨v0_0, v0_1, v0_2⟩, v1, v2⟩, rfl⟩

theorem has27 {n : Nat} {cs : List V} (h : HasC E n 27 cs) : ∃ a b, cs = [.int .i64 a, .int .i64 b] := by
  cases n with
  | zero => exact h.elim
  | succ n =>
    simp only [HasC, ty27, ti27, List.map_cons, List.map_nil, HasFs] at h
    obtain ⟨x0, _, rfl, h0, x1, _, rfl, h1, rfl⟩ := h
    obtain ⟨a, rfl, _⟩ := has3 h0
    obtain ⟨b, rfl, _⟩ := has3 h1
    exact ⟨a, b, rfl⟩

theorem hasLines {n : Nat} {v : V} (h : HasV E n 27 v) : ∃ a b, v = encLines a b := by
  obtain ⟨ti, ds, hti, h, rfl⟩ := h
  rw [ty27] at hti
  cases hti
  obtain ⟨a, b, rfl⟩ := has27 h
  exact ⟨a, b, rfl⟩
theorem hasI {n : Nat} {v : V} (h : HasV E n 3 v) : ∃ i, v = .int .i64 i ∧ -9223372036854775808 ≤ i ∧ i ≤ 9223372036854775807 := by
  obtain ⟨ti, ds, hti, h, rfl⟩ := h
  rw [ty3] at hti
  cases hti
  obtain ⟨i, rfl, h2⟩ := has3 h
  exact ⟨i, rfl, h2⟩

theorem hasRoom {n : Nat} {v : V} (h : HasV E n 25 v) : ∃ r : Room, v = encRoom r := by
  obtain ⟨ti, ds, hti, h, rfl⟩ := h
  rw [ty25] at hti
  cases hti
  exact has25 h

theorem hasStrips {n : Nat} {v : V} (h : HasV E n 30 v) : ∃ rs : List Strip, v = .sl false (rs.map encStrip) ∧ rs.length ≤ maxLen := by
  obtain ⟨ti, ds, hti, h, rfl⟩ := h
  rw [ty30] at hti
  cases hti
  obtain ⟨rs, rfl, h2⟩ := has30 h
  exact ⟨rs, rfl, h2⟩

theorem hasStrip {n : Nat} {v : V} (h : HasV E n 38 v) : ∃ r : Strip, v = encStrip r := by
  obtain ⟨ti, ds, hti, h, rfl⟩ := h
  rw [ty38] at hti
  cases hti
  exact has38 h

theorem hasStart {n : Nat} {v : V} (h : HasV E n 43 v) : ∃ r : Start, v = encStart r := by
  obtain ⟨ti, ds, hti, h, rfl⟩ := h
  rw [ty43] at hti
  cases hti
  exact has43 h

end Go.AM.D
namespace Go.Proofs.Ytejjeckiplihbaa
theorem Try.own : ownKnob Try.prog.godebug = none := by kernel_rfl
theorem Try.laidOut : laidOutB Try.prog = true := by kernel_rfl
end Go.Proofs.Ytejjeckiplihbaa

