/-
What the arguments of the rows look like.
-/
import Derived.Test.YtbfgifolmpmagaaBWarm
import Derived.Test.YtbfgifolmpmagaaAmR
import Derived.Test.YtbfgifolmpmagaaRows
set_option linter.unusedVariables false
set_option linter.unusedSimpArgs false

namespace Go.AM.B
open Go Go.Proofs

theorem has3 {n : Nat} {cs : List V} (h : HasC E n 3 cs) : ∃ i, cs = [.int .i64 i] ∧ -9223372036854775808 ≤ i ∧ i ≤ 9223372036854775807 := by
  cases n with
  | zero => exact h.elim
  | succ n => simp only [HasC, ty3, ti3] at h; exact h

theorem list_of {α : Type} {enc : α → V} {vs : List V} (h : ∀ v ∈ vs, ∃ r : α, v = enc r) : ∃ rs : List α, vs = rs.map enc := by
  induction vs with
  | nil => exact ⟨[], rfl⟩
  | cons v vs ih =>
    obtain ⟨r, rfl⟩ := h v List.mem_cons_self
    obtain ⟨rs, rfl⟩ := ih fun u hu => h u (List.mem_cons_of_mem _ hu)
    exact ⟨r :: rs, rfl⟩

theorem has24 {n : Nat} {cs : List V} (h : HasC E n 24 cs) : ∃ rs : List Int, cs = [.sl false (rs.map vI)] ∧ rs.length ≤ maxLen ∧ ∀ r ∈ rs, -9223372036854775808 ≤ r ∧ r ≤ 9223372036854775807 := by
  cases n with
  | zero => exact h.elim
  | succ n =>
    simp only [HasC, ty24, ti24] at h
    obtain ⟨vs, rfl, hl, hv⟩ := h
    have key : ∀ us : List V, (∀ v ∈ us, v ∈ vs) → ∃ rs : List Int, us = rs.map vI ∧ ∀ r ∈ rs, -9223372036854775808 ≤ r ∧ r ≤ 9223372036854775807 := by
      intro us
      induction us with
      | nil => intro _; exact ⟨[], rfl, fun r hr => by cases hr⟩
      | cons u us ih =>
        intro hu
        obtain ⟨rs, e, hb⟩ := ih fun v hv => hu v (List.mem_cons_of_mem _ hv)
        obtain ⟨ei, ds, hei, h, e2⟩ := hv u (hu u List.mem_cons_self)
        rw [ty3] at hei
        cases hei
        obtain ⟨i, rfl, h2⟩ := has3 h
        refine ⟨i :: rs, by rw [e2, e, List.map_cons]; rfl, fun r hr => ?_⟩
        rcases List.mem_cons.1 hr with rfl | hr
        · exact h2
        · exact hb r hr
    obtain ⟨rs, e, hb⟩ := key vs fun v hv => hv
    exact ⟨rs, by rw [e], by rw [e] at hl; simpa using hl, hb⟩

theorem has42 {n : Nat} {cs : List V} (h : HasC E n 42 cs) : ∃ r : Loft, pack true cs = encL r := by
  cases n with
  | zero => exact h.elim
  | succ n =>
    simp only [HasC, ty42, ti42, List.map_cons, List.map_nil, HasFs] at h
    obtain ⟨x0, _, rfl, h0, x1, _, rfl, h1, rfl⟩ := h
    obtain ⟨v0, rfl, b0⟩ := has3 h0
    obtain ⟨v1, rfl, l1, b1⟩ := has24 h1
    exact ⟨⟨v0, v1⟩, rfl⟩

theorem has43 {n : Nat} {cs : List V} (h : HasC E n 43 cs) : ∃ rs : List Loft, cs = [.sl false (rs.map encL)] ∧ rs.length ≤ maxLen := by
  cases n with
  | zero => exact h.elim
  | succ n =>
    simp only [HasC, ty43, ti43] at h
    obtain ⟨vs, rfl, hl, hv⟩ := h
    obtain ⟨rs, rfl⟩ := list_of (enc := encL) fun v hvm => by
      obtain ⟨ei, ds, hei, h, rfl⟩ := hv v hvm
      rw [ty42] at hei
      cases hei
      exact has42 h
    exact ⟨rs, rfl, by simpa using hl⟩

end Go.AM.B
namespace Go.Proofs.Ytbfgifolmpmagaa
theorem Try.own : ownKnob Try.prog.godebug = none := by kernel_rfl
theorem Try.laidOut : laidOutB Try.prog = true := by kernel_rfl
end Go.Proofs.Ytbfgifolmpmagaa

