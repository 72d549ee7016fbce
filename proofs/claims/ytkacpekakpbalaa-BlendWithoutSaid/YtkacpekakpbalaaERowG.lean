/- A part of the proof: the texts ERowT, ERowU, ERowV, one after another. No condition. -/
import Derived.Test.YtkacpekakpbalaaEBlendP
import Derived.Test.YtkacpekakpbalaaAmR
import Derived.Test.YtkacpekakpbalaaRows
import Derived.Test.YtkacpekakpbalaaEAmts
import Derived.Test.YtkacpekakpbalaaEPrice
set_option linter.unusedVariables false
set_option linter.unusedSimpArgs false
set_option maxRecDepth 20000

section
/-
What the arguments of the rows look like.
-/
namespace Go.AM.E
open Go Go.Proofs

theorem has3 {n : Nat} {cs : List V} (h : HasC E n 3 cs) : ∃ i, cs = [.int .i64 i] ∧ -9223372036854775808 ≤ i ∧ i ≤ 9223372036854775807 := by
  cases n with
  | zero => exact h.elim
  | succ n => simp only [HasC, ty3, ti3] at h; exact h

theorem list_of {α : Type} {enc : α → V} {vs : List V} (h : ∀ v ∈ vs, ∃ r : α, v = enc r) : ∃ rs : List α, vs = rs.map enc := by
  induction vs with
  | nil => exact ⟨[], rfl⟩
  | cons v vs ih =>
    obtain ⟨r, rfl⟩ := h v List.mem_cons_self
    obtain ⟨rs, rfl⟩ := ih fun u hu => h u (List.mem_cons_of_mem _ hu)
    exact ⟨r :: rs, rfl⟩

theorem has23 {n : Nat} {cs : List V} (h : HasC E n 23 cs) : ∃ rs : List Int, cs = [.sl false (rs.map vI)] ∧ rs.length ≤ maxLen ∧ ∀ r ∈ rs, -9223372036854775808 ≤ r ∧ r ≤ 9223372036854775807 := by
  cases n with
  | zero => exact h.elim
  | succ n =>
    simp only [HasC, ty23, ti23] at h
    obtain ⟨vs, rfl, hl, hv⟩ := h
    have key : ∀ us : List V, (∀ v ∈ us, v ∈ vs) → ∃ rs : List Int, us = rs.map vI ∧ ∀ r ∈ rs, -9223372036854775808 ≤ r ∧ r ≤ 9223372036854775807 := by
      intro us
      induction us with
      | nil => intro _; exact ⟨[], rfl, fun r hr => by cases hr⟩
      | cons u us ih =>
        intro hu
        obtain ⟨rs, e, hb⟩ := ih fun v hv => hu v (List.mem_cons_of_mem _ hv)
        obtain ⟨ei, ds, hei, h, e2⟩ := hv u (hu u List.mem_cons_self)
        rw [ty3] at hei
        cases hei
        obtain ⟨i, rfl, h2⟩ := has3 h
        refine ⟨i :: rs, by rw [e2, e, List.map_cons]; rfl, fun r hr => ?_⟩
        rcases List.mem_cons.1 hr with rfl | hr
        · exact h2
        · exact hb r hr
    obtain ⟨rs, e, hb⟩ := key vs fun v hv => hv
    exact ⟨rs, by rw [e], by rw [e] at hl; simpa using hl, hb⟩

theorem has73 {n : Nat} {cs : List V} (h : HasC E n 73 cs) : ∃ r : Cem, pack true cs = encCem r := by
  cases n with
  | zero => exact h.elim
  | succ n =>
    simp only [HasC, ty73, ti73, List.map_cons, List.map_nil, HasFs] at h
    obtain ⟨x0, _, rfl, h0, x1, _, rfl, h1, x2, _, rfl, h2, rfl⟩ := h
    obtain ⟨v0, rfl, b0⟩ := has3 h0
    obtain ⟨v1, rfl, b1⟩ := has3 h1
    obtain ⟨v2, rfl, l2, b2⟩ := has23 h2
    exact ⟨⟨v0, v1, v2⟩, rfl⟩

theorem has22 {n : Nat} {cs : List V} (h : HasC E n 22 cs) : ∃ rs : List Cem, cs = [.sl false (rs.map encCem)] ∧ rs.length ≤ maxLen := by
  cases n with
  | zero => exact h.elim
  | succ n =>
    simp only [HasC, ty22, ti22] at h
    obtain ⟨vs, rfl, hl, hv⟩ := h
    obtain ⟨rs, rfl⟩ := list_of (enc := encCem) fun v hvm => by
      obtain ⟨ei, ds, hei, h, rfl⟩ := hv v hvm
      rw [ty73] at hei
      cases hei
      exact has73 h
    exact ⟨rs, rfl, by simpa using hl⟩

theorem has25 {n : Nat} {cs : List V} (h : HasC E n 25 cs) : ∃ r : Blend, pack true cs = encBlend r := by
  cases n with
  | zero => exact h.elim
  | succ n =>
    simp only [HasC, ty25, ti25, List.map_cons, List.map_nil, HasFs] at h
    obtain ⟨x0, _, rfl, h0, x1, _, rfl, h1, x2, _, rfl, h2, x3, _, rfl, h3, rfl⟩ := h
    obtain ⟨v0, rfl, b0⟩ := has3 h0
    obtain ⟨v1, rfl, l1⟩ := has22 h1
    obtain ⟨v2, rfl, l2, b2⟩ := has23 h2
    obtain ⟨v3, rfl, l3, b3⟩ := has23 h3
    exact ⟨⟨v0, v1, v2, v3⟩, rfl⟩

theorem hasI {n : Nat} {v : V} (h : HasV E n 3 v) : ∃ i, v = .int .i64 i ∧ -9223372036854775808 ≤ i ∧ i ≤ 9223372036854775807 := by
  obtain ⟨ti, ds, hti, h, rfl⟩ := h
  rw [ty3] at hti
  cases hti
  obtain ⟨i, rfl, h2⟩ := has3 h
  exact ⟨i, rfl, h2⟩

theorem hasBlend {n : Nat} {v : V} (h : HasV E n 25 v) : ∃ r : Blend, v = encBlend r := by
  obtain ⟨ti, ds, hti, h, rfl⟩ := h
  rw [ty25] at hti
  cases hti
  exact has25 h

end Go.AM.E
namespace Go.Proofs.Ytkacpekakpbalaa
theorem Try.own : ownKnob Try.prog.godebug = none := by kernel_rfl
theorem Try.laidOut : laidOutB Try.prog = true := by kernel_rfl
end Go.Proofs.Ytkacpekakpbalaa
end

section
/-
What amounts look like as arguments.
-/
namespace Go.AM.E
open Go Go.Proofs

end Go.AM.E
end

section
/-
What prices look like as arguments.
-/
namespace Go.AM.E
open Go Go.Proofs

end Go.AM.E
end

