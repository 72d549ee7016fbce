/-
What the arguments of the row look like.
-/
import Derived.Test.YteocppddjlglbaaFLot
import Derived.Test.YteocppddjlglbaaAmR
import Derived.Test.YteocppddjlglbaaRows
set_option linter.unusedVariables false
set_option linter.unusedSimpArgs false
set_option maxRecDepth 20000

namespace Go.AM.F
open Go Go.Proofs

theorem has3 {n : Nat} {cs : List V} (h : HasC E n 3 cs) : ∃ i, cs = [.int .i64 i] ∧ -9223372036854775808 ≤ i ∧ i ≤ 9223372036854775807 := by
  cases n with
  | zero => exact h.elim
  | succ n => simp only [HasC, ty3, ti3] at h; exact h

theorem list_of {α : Type} {enc : α → V} {vs : List V} (h : ∀ v ∈ vs, ∃ r : α, v = enc r) : ∃ rs : List α, vs = rs.map enc := by
  induction vs with
  | nil => exact ⟨[], rfl⟩
  | cons v vs ih =>
    obtain ⟨r, rfl⟩ := h v List.mem_cons_self
    obtain ⟨rs, rfl⟩ := ih fun u hu => h u (List.mem_cons_of_mem _ hu)
    exact ⟨r :: rs, rfl⟩

theorem has61 {n : Nat} {cs : List V} (h : HasC E n 61 cs) : ∃ r : Part, pack true cs = encPart r := by
  cases n with
  | zero => exact h.elim
  | succ n =>
    simp only [HasC, ty61, ti61, List.map_cons, List.map_nil, HasFs] at h
    obtain ⟨x0, _, rfl, h0, x1, _, rfl, h1, rfl⟩ := h
    obtain ⟨v0, rfl, b0⟩ := has3 h0
    obtain ⟨v1, rfl, b1⟩ := has3 h1
    exact ⟨⟨v0, v1⟩, rfl⟩

theorem has30 {n : Nat} {cs : List V} (h : HasC E n 30 cs) : ∃ rs : List Part, cs = [.sl false (rs.map encPart)] ∧ rs.length ≤ maxLen := by
  cases n with
  | zero => exact h.elim
  | succ n =>
    simp only [HasC, ty30, ti30] at h
    obtain ⟨vs, rfl, hl, hv⟩ := h
    obtain ⟨rs, rfl⟩ := list_of (enc := encPart) fun v hvm => by
      obtain ⟨ei, ds, hei, h, rfl⟩ := hv v hvm
      rw [ty61] at hei
      cases hei
      exact has61 h
    exact ⟨rs, rfl, by simpa using hl⟩

theorem has32 {n : Nat} {cs : List V} (h : HasC E n 32 cs) : ∃ r : Lot, pack true cs = encLot r := by
  cases n with
  | zero => exact h.elim
  | succ n =>
    simp only [HasC, ty32, ti32, List.map_cons, List.map_nil, HasFs] at h
    obtain ⟨x0, _, rfl, h0, x1, _, rfl, h1, x2, _, rfl, h2, rfl⟩ := h
    obtain ⟨v0, rfl, b0⟩ := has3 h0
    obtain ⟨v1, rfl, b1⟩ := has3 h1
    obtain ⟨v2, rfl, l2⟩ := has30 h2
    exact ⟨⟨v0, v1, v2⟩, rfl⟩

theorem has22 {n : Nat} {cs : List V} (h : HasC E n 22 cs) : ∃ rs : List Lot, cs = [.sl false (rs.map encLot)] ∧ rs.length ≤ maxLen := by
  cases n with
  | zero => exact h.elim
  | succ n =>
    simp only [HasC, ty22, ti22] at h
    obtain ⟨vs, rfl, hl, hv⟩ := h
    obtain ⟨rs, rfl⟩ := list_of (enc := encLot) fun v hvm => by
      obtain ⟨ei, ds, hei, h, rfl⟩ := hv v hvm
      rw [ty32] at hei
      cases hei
      exact has32 h
    exact ⟨rs, rfl, by simpa using hl⟩

theorem has24 {n : Nat} {cs : List V} (h : HasC E n 24 cs) : ∃ a b, cs = [.int .i64 a, .int .i64 b] := by
  cases n with
  | zero => exact h.elim
  | succ n =>
    simp only [HasC, ty24, ti24, List.map_cons, List.map_nil, HasFs] at h
    obtain ⟨x0, _, rfl, h0, x1, _, rfl, h1, rfl⟩ := h
    obtain ⟨a, rfl, _⟩ := has3 h0
    obtain ⟨b, rfl, _⟩ := has3 h1
    exact ⟨a, b, rfl⟩

theorem hasLots {n : Nat} {v : V} (h : HasV E n 22 v) : ∃ rs : List Lot, v = encLots rs ∧ rs.length ≤ maxLen := by
  obtain ⟨ti, ds, hti, h, rfl⟩ := h
  rw [ty22] at hti
  cases hti
  obtain ⟨rs, rfl, h2⟩ := has22 h
  exact ⟨rs, rfl, h2⟩

theorem hasPair {n : Nat} {v : V} (h : HasV E n 24 v) : ∃ a b : Int, v = .agg [.int .i64 a, .int .i64 b] := by
  obtain ⟨ti, ds, hti, h, rfl⟩ := h
  rw [ty24] at hti
  cases hti
  obtain ⟨a, b, rfl⟩ := has24 h
  exact ⟨a, b, rfl⟩
end Go.AM.F
namespace Go.Proofs.Yteocppddjlglbaa
theorem Try.own : ownKnob Try.prog.godebug = none := by kernel_rfl
theorem Try.laidOut : laidOutB Try.prog = true := by kernel_rfl
end Go.Proofs.Yteocppddjlglbaa

