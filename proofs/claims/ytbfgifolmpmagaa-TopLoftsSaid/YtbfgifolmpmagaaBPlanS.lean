/-
The plan of loads, as the reference makes it.
-/
import Derived.Test.YtbfgifolmpmagaaBPlanR
set_option linter.unusedVariables false
set_option linter.unusedSimpArgs false

namespace Go.AM.B
open Go Go.AM Go.Proofs

theorem step_len (l : List Loft) (gs : List Goods) (p : List Load × List Int) (n : Int) : (stepM l gs p n).1.length + (stepM l gs p n).2.length = p.1.length + p.2.length + 1 ∨ (stepM l gs p n).1.length + (stepM l gs p n).2.length = p.1.length + p.2.length := by
  obtain ⟨ks, left⟩ := p
  rcases step_cases l gs ks left n with ⟨A, x, B, rfl, _, _, e⟩ | ⟨_, y, _, e⟩ | ⟨_, _, e⟩
  · rw [e]; exact .inr (by simp)
  · rw [e]; exact .inl (by simp <;> omega)
  · rw [e]; exact .inl (by simp <;> omega)
theorem plan_len (l : List Loft) (gs : List Goods) : ∀ pre : List Int, (planFrom l gs pre).1.length + (planFrom l gs pre).2.length ≤ pre.length := by
  intro pre
  induction pre using snoc_ind with
  | h0 => simp [planFrom]
  | h1 pre n ih =>
    rw [planFrom_snoc, List.length_append, List.length_singleton]
    rcases step_len l gs (planFrom l gs pre) n with h | h <;> omega

structure Join (l : List Loft) (gs : List Goods) (ks : List Load) (left : List Int) (n : Int) (ts : List TL) (T : Bool) (p : Nat × Bool × List TL × Bool) : Prop where
  no : p.2.1 = false → p.2.2.1 = ts ∧ p.2.2.2 = T ∧ p.1 ≤ ts.length ∧ (ks.take p.1).any (takes l gs n) = false
  yes : p.2.1 = true → p.1 ≤ ts.length ∧ p.2.2.1.length = ts.length ∧ loadsOf p.2.2.1 = (stepM l gs (ks, left) n).1 ∧ (stepM l gs (ks, left) n).2 = left

end Go.AM.B

