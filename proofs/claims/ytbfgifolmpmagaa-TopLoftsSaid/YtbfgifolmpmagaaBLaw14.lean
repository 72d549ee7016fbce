/-
The law that a proof excludes plans.
-/
import Derived.Test.YtbfgifolmpmagaaBLaw13
import Derived.Test.YtbfgifolmpmagaaBExclP
set_option linter.unusedVariables false
set_option linter.unusedSimpArgs false

namespace Go.AM.B
open Go Go.AM Go.Proofs

theorem isPM_facts {l : List Loft} {gs : List Goods} {a b : Int} (h : isPM l gs a b = true) : bothE l gs = 0 ∧ (0 ≤ a ∧ a ≤ b ∧ b ≤ 60) ∧ provM l gs a b = true := by
  unfold isPM at h
  simp only [Bool.and_eq_true, decide_eq_true_eq, inB_iff] at h
  exact ⟨h.1, ⟨h.2.1.1.1, h.2.1.1.2, h.2.1.2⟩, h.2.2⟩
theorem proof_check {l : List Loft} {gs : List Goods} {a b : Int} (hb : bothE l gs = 0) (hab : a ≤ b) (h : provM l gs a b = true) (P : List Load) : checkM l gs P ≠ 0 := fun hc => by
  obtain ⟨hl, _, hg, _⟩ := both_facts hb
  have := excludes hl hg (check_iff.1 hc).2 hab
  rw [this] at h
  cases h

end Go.AM.B

