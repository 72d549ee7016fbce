/-
Accepted amounts are a blend (plain).
-/
import Derived.Test.YtkacpekakpbalaaEOptQ
set_option linter.unusedVariables false
set_option linter.unusedSimpArgs false
set_option maxRecDepth 20000

namespace Go.AM.E
open Go Go.AM Go.Proofs

def zOf (a : Amts) (i : Nat) : Rat := ((a.x.getD i 0 : Int) : Rat) / (a.den : Rat)
theorem feas_ok {b : Blend} {a : Amts} (h : checkE b a = 0) : FeasR b (zOf a) ∧ ((costM b a.x : Int) : Rat) = (a.den : Rat) * costQ b (zOf a) := by
  obtain ⟨hv, hr, hb⟩ := checkE_zero h
  have ht : Times b a (zOf a) := times_self hr.1.1
  exact ⟨(broken_iff (fun i hi => by rw [getD_in (by have := hr.2.1; omega)]; exact (hr.2.2 _ (List.getElem_mem _)).1) ht).1 hb, cost_cast ht⟩
end Go.AM.E

