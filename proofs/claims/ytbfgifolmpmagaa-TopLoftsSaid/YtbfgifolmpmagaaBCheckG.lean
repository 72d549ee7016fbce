/-
Loads: a plan's check, as the reference does it.
-/
import Derived.Test.YtbfgifolmpmagaaBCheckF
set_option linter.unusedVariables false
set_option linter.unusedSimpArgs false

namespace Go.AM.B
open Go Go.AM Go.Proofs

theorem taken_meets (l : List Loft) (gs : List Goods) (pre : List Load) (x : Load) : takenM pre x.loft x.start (endM x) = (pre.map (seeM l gs)).any (meetsK (seeM l gs x)) := by
  unfold takenM
  rw [List.any_map]
  congr 1
  funext y
  rw [Bool.eq_iff_iff]
  simp only [Function.comp, meetsM, meetsK, seeM, Bool.and_eq_true, decide_eq_true_eq, beq_iff_eq]
  constructor
  · rintro ⟨h1, h2, h3⟩; exact ⟨⟨h1.symm, decide_eq_true h3⟩, decide_eq_true h2⟩
  · rintro ⟨⟨h1, h2⟩, h3⟩; exact ⟨h1.symm, of_decide_eq_true h3, of_decide_eq_true h2⟩

end Go.AM.B

