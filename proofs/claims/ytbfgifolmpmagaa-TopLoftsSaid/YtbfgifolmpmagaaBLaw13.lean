/-
The law of plans.
-/
import Derived.Test.YtbfgifolmpmagaaBPlan
import Derived.Test.YtbfgifolmpmagaaBPlanS
import Derived.Test.YtbfgifolmpmagaaBInts
set_option linter.unusedVariables false
set_option linter.unusedSimpArgs false

namespace Go.AM.B
open Go Go.AM Go.Proofs

theorem plan_short {l : List Loft} {gs : List Goods} (hb : bothE l gs = 0) : (planP l gs).1.length ≤ 8 ∧ (planP l gs).2.length ≤ 8 ∧ ∀ x ∈ (planP l gs).1, x.heats.length ≤ 12 ∧ x.goods.length ≤ 8 := by
  obtain ⟨hl, _, hg, _⟩ := both_facts hb
  obtain ⟨_, h2⟩ := bothE_zero hb
  have h8 := (goodsE_zero h2).1
  have hlen := plan_len l gs (orderM gs)
  rw [order_len] at hlen
  have m : Made l gs (orderM gs) (planP l gs).1 (planP l gs).2 := plan_made hl hg (orderM gs) [] (by simp)
  refine ⟨by show (planFrom l gs (orderM gs)).1.length ≤ 8; omega, by show (planFrom l gs (orderM gs)).2.length ≤ 8; omega, fun x hx => ?_⟩
  have s := m.each x hx
  have := (validHs_iff.1 s.heats).1
  have := isSet_len s.set
  omega

end Go.AM.B

