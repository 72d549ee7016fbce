/-
What jobs and cuts look like as arguments (without rooms).
-/
import Derived.Test.YtejjeckiplihbaaDJobP
import Derived.Test.YtejjeckiplihbaaDExt
import Derived.Test.YtejjeckiplihbaaRows
set_option linter.unusedSimpArgs false
set_option maxRecDepth 20000

namespace Go.AM.D
open Go Go.Proofs

theorem has3 {n : Nat} {cs : List V} (h : HasC E n 3 cs) : ∃ i, cs = [.int .i64 i] ∧ -9223372036854775808 ≤ i ∧ i ≤ 9223372036854775807 := by
  cases n with
  | zero => exact h.elim
  | succ n => simp only [HasC, ty3, ti3] at h; exact h


theorem list_of {α : Type} {enc : α → V} {vs : List V} (h : ∀ v ∈ vs, ∃ r : α, v = enc r) : ∃ rs : List α, vs = rs.map enc := by
  induction vs with
  | nil => exact ⟨[], rfl⟩
  | cons v vs ih =>
    obtain ⟨r, rfl⟩ := h v List.mem_cons_self
    obtain ⟨rs, rfl⟩ := ih fun u hu => h u (List.mem_cons_of_mem _ hu)
    exact ⟨r :: rs, rfl⟩


theorem has38 {n : Nat} {cs : List V} (h : HasC E n 38 cs) : ∃ r : Strip, pack true cs = encStrip r := by
  cases n with
  | zero => exact h.elim
  | succ n =>
    simp only [HasC, ty38, ti38, List.map_cons, List.map_nil, HasFs] at h
    obtain ⟨x0, _, rfl, h0, x1, _, rfl, h1, x2, _, rfl, h2, rfl⟩ := h
    obtain ⟨v0, rfl, b0⟩ := has3 h0
    obtain ⟨v1, rfl, b1⟩ := has3 h1
    obtain ⟨v2, rfl, b2⟩ := has3 h2
    exact ⟨⟨v0, v1, v2⟩, rfl⟩


theorem has30 {n : Nat} {cs : List V} (h : HasC E n 30 cs) : ∃ rs : List Strip, cs = [.sl false (rs.map encStrip)] ∧ rs.length ≤ maxLen := by
  cases n with
  | zero => exact h.elim
  | succ n =>
    simp only [HasC, ty30, ti30] at h
    obtain ⟨vs, rfl, hl, hv⟩ := h
    obtain ⟨rs, rfl⟩ := list_of (enc := encStrip) fun v hvm => by
      obtain ⟨ei, ds, hei, h, rfl⟩ := hv v hvm
      rw [ty38] at hei
      cases hei
      exact has38 h
    exact ⟨rs, rfl, by simpa using hl⟩


theorem hasI {n : Nat} {v : V} (h : HasV E n 3 v) : ∃ i, v = .int .i64 i ∧ -9223372036854775808 ≤ i ∧ i ≤ 9223372036854775807 := by
  obtain ⟨ti, ds, hti, h, rfl⟩ := h
  rw [ty3] at hti
  cases hti
  obtain ⟨i, rfl, h2⟩ := has3 h
  exact ⟨i, rfl, h2⟩


theorem has41R {n : Nat} {cs : List V} (h : HasC E n 41 cs) : ∃ r : Roll, pack true cs = encRoll r := by
  cases n with
  | zero => exact h.elim
  | succ n =>
    simp only [HasC, ty41, ti41, List.map_cons, List.map_nil, HasFs] at h
    obtain ⟨x0, _, rfl, h0, x1, _, rfl, h1, x2, _, rfl, h2, rfl⟩ := h
    obtain ⟨v0, rfl, b0⟩ := has3 h0
    obtain ⟨v1, rfl, b1⟩ := has3 h1
    obtain ⟨v2, rfl, b2⟩ := has3 h2
    exact ⟨⟨v0, v1, v2⟩, rfl⟩
theorem has64 {n : Nat} {cs : List V} (h : HasC E n 64 cs) : ∃ rs : List Roll, cs = [.sl false (rs.map encRoll)] ∧ rs.length ≤ maxLen := by
  cases n with
  | zero => exact h.elim
  | succ n =>
    simp only [HasC, ty64, ti64] at h
    obtain ⟨vs, rfl, hl, hv⟩ := h
    obtain ⟨rs, rfl⟩ := list_of (enc := encRoll) fun v hvm => by
      obtain ⟨ei, ds, hei, h, rfl⟩ := hv v hvm
      rw [ty41] at hei
      cases hei
      exact has41R h
    exact ⟨rs, rfl, by simpa using hl⟩
theorem has66 {n : Nat} {cs : List V} (h : HasC E n 66 cs) : ∃ j : Job, pack true cs = encJob j ∧ j.ss.length ≤ maxLen ∧ j.rs.length ≤ maxLen := by
  cases n with
  | zero => exact h.elim
  | succ n =>
    simp only [HasC, ty66, ti66, List.map_cons, List.map_nil, HasFs] at h
    obtain ⟨x0, _, rfl, h0, x1, _, rfl, h1, x2, _, rfl, h2, rfl⟩ := h
    obtain ⟨v0, rfl, l0⟩ := has30 h0
    obtain ⟨v1, rfl, l1⟩ := has64 h1
    obtain ⟨v2, rfl, b2⟩ := has3 h2
    exact ⟨⟨v0, v1, v2⟩, rfl, l0, l1⟩
theorem has131 {n : Nat} {cs : List V} (h : HasC E n 131 cs) : ∃ r : Cut, pack true cs = encCut r := by
  cases n with
  | zero => exact h.elim
  | succ n =>
    simp only [HasC, ty131, ti131, List.map_cons, List.map_nil, HasFs] at h
    obtain ⟨x0, _, rfl, h0, x1, _, rfl, h1, x2, _, rfl, h2, rfl⟩ := h
    obtain ⟨v0, rfl, b0⟩ := has3 h0
    obtain ⟨v1, rfl, b1⟩ := has3 h1
    obtain ⟨v2, rfl, b2⟩ := has3 h2
    exact ⟨⟨v0, v1, v2⟩, rfl⟩
theorem has67 {n : Nat} {cs : List V} (h : HasC E n 67 cs) : ∃ rs : List Cut, cs = [.sl false (rs.map encCut)] ∧ rs.length ≤ maxLen := by
  cases n with
  | zero => exact h.elim
  | succ n =>
    simp only [HasC, ty67, ti67] at h
    obtain ⟨vs, rfl, hl, hv⟩ := h
    obtain ⟨rs, rfl⟩ := list_of (enc := encCut) fun v hvm => by
      obtain ⟨ei, ds, hei, h, rfl⟩ := hv v hvm
      rw [ty131] at hei
      cases hei
      exact has131 h
    exact ⟨rs, rfl, by simpa using hl⟩
theorem hasOrder {n : Nat} {v : V} (h : HasV E n 66 v) : ∃ j : Job, v = encJob j := by
  obtain ⟨ti, ds, hti, h, rfl⟩ := h
  rw [ty66] at hti
  cases hti
  obtain ⟨j, h1, h2, h3⟩ := has66 h
  exact ⟨j, h1⟩
theorem hasCuts {n : Nat} {v : V} (h : HasV E n 67 v) : ∃ rs : List Cut, v = .sl false (rs.map encCut) ∧ rs.length ≤ maxLen := by
  obtain ⟨ti, ds, hti, h, rfl⟩ := h
  rw [ty67] at hti
  cases hti
  obtain ⟨rs, rfl, hl⟩ := has67 h
  exact ⟨rs, rfl, hl⟩
theorem hasRoll {n : Nat} {v : V} (h : HasV E n 41 v) : ∃ r : Roll, v = encRoll r := by
  obtain ⟨ti, ds, hti, h, rfl⟩ := h
  rw [ty41] at hti
  cases hti
  exact has41R h
end Go.AM.D
namespace Go.Proofs.Ytejjeckiplihbaa
theorem Try.own : ownKnob Try.prog.godebug = none := by kernel_rfl
theorem Try.laidOut : laidOutB Try.prog = true := by kernel_rfl
end Go.Proofs.Ytejjeckiplihbaa
