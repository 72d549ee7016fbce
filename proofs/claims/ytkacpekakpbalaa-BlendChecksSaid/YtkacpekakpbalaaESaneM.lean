/-
The law's sanity check is right: a fact of the machine's outside.
-/
import Derived.Test.YtkacpekakpbalaaESaneL
set_option linter.unusedSimpArgs false

namespace Go.AM.E
open Go Go.AM Go.RowKit Go.Proofs

def qsane : Known := ⟨17, [], .bool true⟩
set_option maxRecDepth 100000 in
theorem rsane : Runs X4 qsane := by unfold Runs; decide +kernel
/-- The machine's outside: num.gcd and the sanity check. -/
def XS : Ext := XK X0 [qsane]
theorem XS_ok : ExtOk Try.prog XS := XK_ok X0_ok (allRun_right X4_ok (allRun_cons rsane allRun_nil))

theorem c94 (x y : Int) (hx : 0 ≤ x) (hy : 0 ≤ y) : (orcω E XS).call 94 [.int .u64 x, .int .u64 y] = some (.int .u64 ((Nat.gcd x.toNat y.toNat : Nat) : Int)) := by
  refine (orcω_le 0).call _ _ _ ?_
  simp only [orc, XS, XK, X0, gcdAt, hx, hy, and_self, if_true]
theorem c17 : (orcω E XS).call 17 [] = some (.bool true) := by
  refine (orcω_le 0).call _ _ _ ?_
  simp only [orc, XS, XK, X0, kn, qsane, eqVL, if_false, beq_self_eq_true, Bool.and_self, if_true, show ¬ (17 = 94) by decide]
end Go.AM.E
