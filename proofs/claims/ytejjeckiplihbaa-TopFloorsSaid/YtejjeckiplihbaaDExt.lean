/-
slices.Clone of a slice without elements.
-/
import Derived.Test.YtejjeckiplihbaaDEnv
import Derived.Test.YtejjeckiplihbaaAmClone
import Derived.Test.YtejjeckiplihbaaAmR
set_option linter.unusedSimpArgs false
set_option maxRecDepth 20000

namespace Go.AM.D
open Go Go.AM Go.Proofs

def Xn : Ext := { call := fun _ _ => none, inl := fun _ _ _ _ => none }
theorem Xn_ok : ExtOk Try.prog Xn := ⟨(fun _ _ _ h => by cases h), (fun _ _ _ _ _ _ h => by cases h)⟩
theorem c103n (a : Option Addr) (cap : Nat) : (orcω E Xn).call 103 [.lit (.slice a 0 cap)] = some (.sl true []) := by
  refine call_of rfl fn103 rfl ?_
  have hroom : roomy 0 24 = true := by decide
  cases a with
  | none => simp (maxSteps := 1000000) (implicitDefEqProofs := false) only [Try.ntmps103, Try.results103, efc103, fc103, Option.map_some, nilTest, ss, sd, evOp, evPlain, evVal, evMem, St.get, sliceOf, arrayOf, fieldsOf, normOf, norm, look, evVar, evFieldAddr, nameOf, St.alloc, St.drop, killOb, part, splice, depth, resultsV, ↓reduceIte, Nat.reduceBEq, Nat.reduceAdd, Nat.reduceSub, Nat.reduceMul, Nat.reduceEqDiff, Nat.reduceLeDiff, Nat.reduceLT, effOf, effMem, effVar, effLit, effMake, effApp, lend, evLit, evNil, freeze, evField, evIndexT, orNil, evSlice, placeOf, evMap, mapOf, keyOk, evFrame, closed, fixed, sameEs, wit, Option.isSome_some, St.with, wantedD, Array.size, te, einl, inls, efr]
  | some a => simp (maxSteps := 1000000) (implicitDefEqProofs := false) only [Try.ntmps103, Try.results103, efc103, fc103, Option.map_some, hroom, nilTest, ss, sd, evOp, evPlain, evVal, evMem, St.get, sliceOf, arrayOf, fieldsOf, normOf, norm, look, evVar, evFieldAddr, nameOf, St.alloc, St.drop, killOb, part, splice, depth, resultsV, ↓reduceIte, Nat.reduceBEq, Nat.reduceAdd, Nat.reduceSub, Nat.reduceMul, Nat.reduceEqDiff, Nat.reduceLeDiff, Nat.reduceLT, effOf, effMem, effVar, effLit, effMake, effApp, lend, evLit, evNil, freeze, evField, evIndexT, orNil, evSlice, placeOf, evMap, mapOf, keyOk, evFrame, closed, fixed, sameEs, wit, Option.isSome_some, St.with, wantedD, Array.size, te, einl, inls, efr]
theorem c95n (a : Option Addr) (cap : Nat) : (orcω E Xn).call 95 [.lit (.slice a 0 cap)] = some (.sl true []) := by
  refine call_of rfl fn95 rfl ?_
  have hroom : roomy 0 24 = true := by decide
  cases a with
  | none => simp (maxSteps := 1000000) (implicitDefEqProofs := false) only [Try.ntmps95, Try.results95, efc95, fc95, Option.map_some, nilTest, ss, sd, evOp, evPlain, evVal, evMem, St.get, sliceOf, arrayOf, fieldsOf, normOf, norm, look, evVar, evFieldAddr, nameOf, St.alloc, St.drop, killOb, part, splice, depth, resultsV, ↓reduceIte, Nat.reduceBEq, Nat.reduceAdd, Nat.reduceSub, Nat.reduceMul, Nat.reduceEqDiff, Nat.reduceLeDiff, Nat.reduceLT, effOf, effMem, effVar, effLit, effMake, effApp, lend, evLit, evNil, freeze, evField, evIndexT, orNil, evSlice, placeOf, evMap, mapOf, keyOk, evFrame, closed, fixed, sameEs, wit, Option.isSome_some, St.with, wantedD, Array.size, te, einl, inls, efr]
  | some a => simp (maxSteps := 1000000) (implicitDefEqProofs := false) only [Try.ntmps95, Try.results95, efc95, fc95, Option.map_some, hroom, nilTest, ss, sd, evOp, evPlain, evVal, evMem, St.get, sliceOf, arrayOf, fieldsOf, normOf, norm, look, evVar, evFieldAddr, nameOf, St.alloc, St.drop, killOb, part, splice, depth, resultsV, ↓reduceIte, Nat.reduceBEq, Nat.reduceAdd, Nat.reduceSub, Nat.reduceMul, Nat.reduceEqDiff, Nat.reduceLeDiff, Nat.reduceLT, effOf, effMem, effVar, effLit, effMake, effApp, lend, evLit, evNil, freeze, evField, evIndexT, orNil, evSlice, placeOf, evMap, mapOf, keyOk, evFrame, closed, fixed, sameEs, wit, Option.isSome_some, St.with, wantedD, Array.size, te, einl, inls, efr]
def cloneAt : List V → Option V
  | [.sl false []] => some (.sl true [])
  | _ => none
def X0 : Ext := { call := fun g args => if g = 103 then cloneAt args else if g = 95 then cloneAt args else none, inl := fun _ _ _ _ => none }
theorem cloneAt_some {args : List V} {r : V} (h : cloneAt args = some r) : args = [.sl false []] ∧ r = .sl true [] := by
  unfold cloneAt at h
  split at h
  · cases h
    exact ⟨rfl, rfl⟩
  · cases h
theorem X0_ok : ExtOk Try.prog X0 := ⟨(fun g args r h => by
  simp only [X0] at h
  split at h
  · rename_i hg
    subst hg
    obtain ⟨rfl, rfl⟩ := cloneAt_some h
    exact callOk_empty fun a cap => Orc.callOk E_ok Xn_ok mixed (c103n a cap)
  · split at h
    · rename_i hg
      subst hg
      obtain ⟨rfl, rfl⟩ := cloneAt_some h
      exact callOk_empty fun a cap => Orc.callOk E_ok Xn_ok mixed (c95n a cap)
    · cases h), (fun _ _ _ _ _ _ h => by cases h)⟩
end Go.AM.D
