import Derived.Test.YtffbfhjcpgcdeaaCRowT
set_option linter.unusedVariables false
set_option linter.unusedSimpArgs false
set_option maxRecDepth 20000

namespace Go.AM.C
open Go Go.Proofs

theorem hasRecd {n : Nat} {v : V} (h : HasV E n 59 v) : ∃ (ps : List (Int × Int)) (a b : Int), v = .agg [.sl false (ps.map encPc), .int .i64 a, .int .i64 b] := by
  obtain ⟨ti, ds, hti, h, rfl⟩ := h
  rw [ty59] at hti
  cases hti
  cases n with
  | zero => exact h.elim
  | succ n =>
    simp only [HasC, ty59, ti59, List.map_cons, List.map_nil, HasFs] at h
    obtain ⟨x, _, rfl, h1, y, _, rfl, h2, z, _, rfl, h3, rfl⟩ := h
    obtain ⟨ps, rfl⟩ := has42 h1
    obtain ⟨a, rfl, _⟩ := has3 h2
    obtain ⟨b, rfl, _⟩ := has3 h3
    exact ⟨ps, a, b, rfl⟩

end Go.AM.C

