/-
Orders of both sides.
-/
import Derived.Test.YtejjeckiplihbaaDBase
import Derived.Test.YtejjeckiplihbaaDJobP
set_option linter.unusedSimpArgs false
set_option maxRecDepth 20000

namespace Go.AM.D
open Go Go.AM Go.Proofs

theorem c39 (j : Job) : (orcω E X0).call 39 [encJob j] = some (encJob j) := by
  refine call_of rfl fn39 rfl ?_
  unfold encJob
  simp (maxSteps := 1000000) (implicitDefEqProofs := false) only [Try.ntmps39, Try.results39, efc39, ss, sd, evOp, evPlain, evVal, evMem, St.get, sliceOf, arrayOf, fieldsOf, normOf, norm, look, evVar, evFieldAddr, nameOf, St.alloc, St.drop, killOb, part, splice, depth, resultsV, ↓reduceIte, Nat.reduceBEq, Nat.reduceAdd, Nat.reduceSub, Nat.reduceMul, Nat.reduceEqDiff, Nat.reduceLeDiff, Nat.reduceLT, effOf, effMem, effVar, effLit, effMake, effApp, lend, evLit, evNil, freeze, evField, evIndexT, orNil, evSlice, placeOf, evMap, mapOf, keyOk, evFrame, closed, fixed, sameEs, wit, Option.isSome_some, St.with, wantedD, Array.size, te, einl, inls, efr]
theorem c41 (j : Job) : (orcω E X0).call 41 [encJob j] = some (encJob j) := by
  refine call_of rfl fn41 rfl ?_
  unfold encJob
  simp (maxSteps := 1000000) (implicitDefEqProofs := false) only [Try.ntmps41, Try.results41, efc41, ss, sd, evOp, evPlain, evVal, evMem, St.get, sliceOf, arrayOf, fieldsOf, normOf, norm, look, evVar, evFieldAddr, nameOf, St.alloc, St.drop, killOb, part, splice, depth, resultsV, ↓reduceIte, Nat.reduceBEq, Nat.reduceAdd, Nat.reduceSub, Nat.reduceMul, Nat.reduceEqDiff, Nat.reduceLeDiff, Nat.reduceLT, effOf, effMem, effVar, effLit, effMake, effApp, lend, evLit, evNil, freeze, evField, evIndexT, orNil, evSlice, placeOf, evMap, mapOf, keyOk, evFrame, closed, fixed, sameEs, wit, Option.isSome_some, St.with, wantedD, Array.size, te, einl, inls, efr]

end Go.AM.D
