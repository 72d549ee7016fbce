import Derived.Test.YtdipdaajicceoaaARowT
import Derived.Test.YtdipdaajicceoaaABandQ
set_option linter.unusedSimpArgs false
namespace Go.AM.A
open Go Go.Proofs

theorem hasMk {n : Nat} {v : V} (h : HasV E n 38 v) : ∃ m : Mk, v = encMk m := by
  obtain ⟨ti, ds, hti, h, rfl⟩ := h
  rw [ty38] at hti
  cases hti
  obtain ⟨a, b, c, rfl⟩ := has38 h
  exact ⟨⟨a, b, c⟩, rfl⟩

theorem hasQ {n : Nat} {v : V} (h : HasV E n 53 v) : ∃ q : Qu, v = encQ q := by
  obtain ⟨ti, ds, hti, h, rfl⟩ := h
  rw [ty53] at hti
  cases hti
  cases n with
  | zero => exact h.elim
  | succ n =>
    simp only [HasC, ty53, ti53, List.map_cons, List.map_nil, HasFs] at h
    obtain ⟨x, _, rfl, h1, y, _, rfl, h2, z, _, rfl, h3, u, _, rfl, h4, rfl⟩ := h
    obtain ⟨a, rfl, _⟩ := has3 h1
    obtain ⟨b, rfl, _⟩ := has3 h2
    obtain ⟨c, rfl, _⟩ := has3 h3
    obtain ⟨d, rfl, _⟩ := has3 h4
    exact ⟨⟨a, b, c, d⟩, rfl⟩

end Go.AM.A
