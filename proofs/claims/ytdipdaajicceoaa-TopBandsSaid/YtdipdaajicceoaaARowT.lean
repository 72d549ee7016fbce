import Derived.Test.YtdipdaajicceoaaAQ
import Derived.Test.YtdipdaajicceoaaAmR
import Derived.Test.YtdipdaajicceoaaRows
set_option linter.unusedSimpArgs false

namespace Go.AM.A
open Go Go.Proofs

theorem has3 {n : Nat} {cs : List V} (h : HasC E n 3 cs) : ∃ i, cs = [.int .i64 i] ∧ -9223372036854775808 ≤ i ∧ i ≤ 9223372036854775807 := by
  cases n with
  | zero => exact h.elim
  | succ n => simp only [HasC, ty3, ti3] at h; exact h

theorem has38 {n : Nat} {cs : List V} (h : HasC E n 38 cs) : ∃ a b c, cs = [.int .i64 a, .int .i64 b, .int .i64 c] := by
  cases n with
  | zero => exact h.elim
  | succ n =>
    simp only [HasC, ty38, ti38, List.map_cons, List.map_nil, HasFs] at h
    obtain ⟨x, _, rfl, h1, y, _, rfl, h2, z, _, rfl, h3, rfl⟩ := h
    obtain ⟨a, rfl, _⟩ := has3 h1
    obtain ⟨b, rfl, _⟩ := has3 h2
    obtain ⟨c, rfl, _⟩ := has3 h3
    exact ⟨a, b, c, rfl⟩

theorem has68 {n : Nat} {cs : List V} (h : HasC E n 68 cs) : ∃ r : Run, pack true cs = encRun r := by
  cases n with
  | zero => exact h.elim
  | succ n =>
    simp only [HasC, ty68, ti68, List.map_cons, List.map_nil, HasFs] at h
    obtain ⟨x, _, rfl, h1, y, _, rfl, h2, rfl⟩ := h
    obtain ⟨l, rfl, _⟩ := has3 h1
    obtain ⟨a, b, c, rfl⟩ := has38 h2
    exact ⟨⟨l, a, b, c⟩, rfl⟩

theorem runs_of {vs : List V} (h : ∀ v ∈ vs, ∃ r : Run, v = encRun r) : ∃ rs : List Run, vs = rs.map encRun := by
  induction vs with
  | nil => exact ⟨[], rfl⟩
  | cons v vs ih =>
    obtain ⟨r, rfl⟩ := h v List.mem_cons_self
    obtain ⟨rs, rfl⟩ := ih fun u hu => h u (List.mem_cons_of_mem _ hu)
    exact ⟨r :: rs, rfl⟩

theorem has22 {n : Nat} {v : V} (h : HasV E n 22 v) : ∃ rs : List Run, v = .sl false (rs.map encRun) := by
  obtain ⟨ti, ds, hti, h, rfl⟩ := h
  rw [ty22] at hti
  cases hti
  cases n with
  | zero => exact h.elim
  | succ n =>
    simp only [HasC, ty22, ti22] at h
    obtain ⟨vs, rfl, _, hv⟩ := h
    obtain ⟨rs, rfl⟩ := runs_of fun v hvm => by
      obtain ⟨ei, ds, hei, h, rfl⟩ := hv v hvm
      rw [ty68] at hei
      cases hei
      exact has68 h
    exact ⟨rs, rfl⟩

theorem pack_one (v : V) : pack false [v] = v := rfl

theorem hasI {n : Nat} {v : V} (h : HasV E n 3 v) : ∃ i, v = .int .i64 i ∧ -9223372036854775808 ≤ i ∧ i ≤ 9223372036854775807 := by
  obtain ⟨ti, ds, hti, h, rfl⟩ := h
  rw [ty3] at hti
  cases hti
  obtain ⟨i, rfl, h2⟩ := has3 h
  exact ⟨i, rfl, h2⟩

theorem hasCh {n : Nat} {v : V} (h : HasV E n 63 v) : ∃ a b c d : Int, v = .agg [.int .i64 a, .int .i64 b, .int .i64 c, .int .i64 d] := by
  obtain ⟨ti, ds, hti, h, rfl⟩ := h
  rw [ty63] at hti
  cases hti
  cases n with
  | zero => exact h.elim
  | succ n =>
    simp only [HasC, ty63, ti63, List.map_cons, List.map_nil, HasFs] at h
    obtain ⟨x, _, rfl, h1, y, _, rfl, h2, z, _, rfl, h3, u, _, rfl, h4, rfl⟩ := h
    obtain ⟨a, rfl, _⟩ := has3 h1
    obtain ⟨b, rfl, _⟩ := has3 h2
    obtain ⟨c, rfl, _⟩ := has3 h3
    obtain ⟨d, rfl, _⟩ := has3 h4
    exact ⟨a, b, c, d, rfl⟩
end Go.AM.A
namespace Go.Proofs.Ytdipdaajicceoaa
theorem Try.own : ownKnob Try.prog.godebug = none := by kernel_rfl
theorem Try.laidOut : laidOutB Try.prog = true := by kernel_rfl
end Go.Proofs.Ytdipdaajicceoaa
