import Derived.Test.YtffbfhjcpgcdeaaCRowT
set_option linter.unusedVariables false
set_option linter.unusedSimpArgs false
set_option maxRecDepth 20000

namespace Go.AM.C
open Go Go.Proofs

theorem hasBound {n : Nat} {v : V} (h : HasV E n 76 v) : ∃ (us : List Int) (ps : List (Int × Int)), v = .agg [.sl false (us.map vI), .sl false (ps.map encPc)] := by
  obtain ⟨ti, ds, hti, h, rfl⟩ := h
  rw [ty76] at hti
  cases hti
  cases n with
  | zero => exact h.elim
  | succ n =>
    simp only [HasC, ty76, ti76, List.map_cons, List.map_nil, HasFs] at h
    obtain ⟨x, _, rfl, h1, y, _, rfl, h2, rfl⟩ := h
    obtain ⟨us, rfl, _⟩ := has36 h1
    obtain ⟨ps, rfl⟩ := has42 h2
    exact ⟨us, ps, rfl⟩

end Go.AM.C

