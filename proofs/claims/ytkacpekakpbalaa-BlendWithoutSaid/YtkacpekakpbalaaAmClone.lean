/-
Slices without elements, which may be nil.
-/
import Derived.Test.YtkacpekakpbalaaAmQ
set_option linter.unusedVariables false
set_option linter.unusedSimpArgs false

namespace Go.AM
open Go

theorem callOk_empty {P : Program} {g : Nat} {r : V} (h : ∀ (a : Option Addr) (cap : Nat), CallOk P g [.lit (.slice a 0 cap)] r) : CallOk P g [.sl false []] r := by
  refine ⟨(h none 0).1, fun m w Fo cargs hFo hrep => ?_⟩
  obtain ⟨c, r', rfl, hc, hr⟩ := hrep
  simp only [RepL] at hr
  subst hr
  obtain ⟨_, a, cap, rfl, _, _⟩ := hc
  exact (h a cap).2 m w Fo _ hFo ⟨_, _, rfl, ⟨rfl, rfl⟩, rfl⟩

end Go.AM

