/-
The law: which blends are valid.
-/
import Derived.Test.YtkacpekakpbalaaEBlend
set_option linter.unusedSimpArgs false

namespace Go.AM.E
open Go Go.AM Go.Proofs

theorem okT3 : okCode (Try.f3.body.getD .skip) = true := by decide +kernel
set_option maxHeartbeats 4000000 in
theorem c3 (b : Blend) : (orcω E XS).call 3 [encBlend b] = some (.bool true) := by
  refine call_of rfl fn3 rfl ?_
  have hok := okT3
  simp only [Try.f3, Option.getD_some, okCode, Bool.and_eq_true, Bool.and_true, Bool.true_and] at hok
  have k0 := c17
  have k1 := c15 b
  have k2 := c16 b
  obtain ⟨tot, cs, lo, hi⟩ := b
  unfold encBlend at k1 k2 ⊢
  dsimp only at k1 k2 ⊢
  simp (maxSteps := 1000000) (implicitDefEqProofs := false) only [Try.ntmps3, Try.results3, efc3, evRegion_st hok, k0, k1, k2, beq_self_eq_true, ss, List.replicate, evOp, evPlain, evVal, evMem, St.eval, St.put, St.get, constV, List.set, lenV, sliceOf, arrayOf, fieldsOf, normOf, norm, firstRegion, look, maskFrom, evBin, evIndexS, evLoad, evVar, evStore, evFieldAddr, nameOf, St.alloc, St.drop, killL, kill, killAll, killObs, killOb, upd, cells?, part, retag, retagL, putIn, refFree, refFreeL, isNew, isNewL, Ty.isAgg, splice, idsL, ids, idsLL, reach, depth, St.dropL, resultsV, resultV, ↓reduceIte, Nat.reduceBEq, Nat.reduceAdd, Nat.reduceSub, Nat.reduceMul, Nat.reduceEqDiff, Nat.reduceLeDiff, Nat.reduceLT, effOf, effMem, effStore, effCall, effVar, effLit, effMake, effApp, Eff.ap, lend, evLit, evMake, evNil, freeze, onto, dropO, elemsV, sized, evCmp, eqT, eqG, minV, evUn, evField, evExtract, evIndexA, evIndexV, evSlice, optInt, fillV, placeOf, thawed, del, isNilSlice, plain, plainL, cellsJ, junkOk, evLook, evMap, evEnter, effEnter, findV, mapOf, keyOk, evFrame, unframe, closed, fixed, sameEs, pickObs, putObs, wit, sameWit, Option.isSome_some, evNilCheck, St.with, setSlots, setObs, wantedD, seqOf, noRange, setAll, Array.size, te, einl, inls, efr]
end Go.AM.E
