/-
The laws of hangings and of heats, as the machine runs them.
-/
import Derived.Test.YtbfgifolmpmagaaBWarm
import Derived.Test.YtbfgifolmpmagaaBInts
set_option linter.unusedSimpArgs false

namespace Go.AM.B
open Go Go.AM Go.Proofs

theorem okT3 : okCode (Try.f3.body.getD .skip) = true := by decide +kernel

set_option maxHeartbeats 4000000 in
theorem c3 (h : Hang) (n p : Int) : (orcω E X0).call 3 [encH h, .int .i64 n, .int .i64 p] = some (.bool true) := by
  refine call_of rfl fn3 rfl ?_
  have hok := okT3
  simp only [Try.f3, Option.getD_some, okCode, Bool.and_eq_true, Bool.and_true, Bool.true_and] at hok
  have k1 := c16 n h
  have k2 := c18 n h
  have k3 := c20 h p
  have k4 := c21 h p
  have k5 := c22 h
  have k6 := c23 h
  have k7 := c17 h
  have k8 := c19 h
  have k9 : (polesR n h).1.length ≤ 1000000000 := by
    unfold polesR
    split
    · split
      · simp
      · simp only; omega
    · simp
  have k10 := c24 (polesR n h).1 (polesR n h).1 k9
  generalize polesR n h = r at *
  generalize heightR h p = q at *
  unfold encIs at k1 k2
  unfold encI2 at k3 k4
  unfold encH at *
  simp (maxSteps := 1000000) (implicitDefEqProofs := false) only [Try.ntmps3, Try.results3, efc3, k1, k2, k3, k4, k5, k6, k7, k8, k10, c25, evRegion_st hok, beq_self_eq_true, decide_true, ss, List.replicate, evOp, evPlain, evVal, evMem, St.eval, St.put, St.get, constV, List.set, lenV, sliceOf, arrayOf, fieldsOf, normOf, norm, firstRegion, look, maskFrom, evBin, evIndexS, evLoad, evVar, evStore, evFieldAddr, nameOf, St.alloc, St.drop, killL, kill, killAll, killObs, killOb, upd, cells?, part, retag, retagL, putIn, refFree, refFreeL, isNew, isNewL, Ty.isAgg, splice, idsL, ids, idsLL, reach, depth, St.dropL, resultsV, resultV, ↓reduceIte, Nat.reduceBEq, Nat.reduceAdd, Nat.reduceSub, Nat.reduceMul, Nat.reduceEqDiff, Nat.reduceLeDiff, Nat.reduceLT, effOf, effMem, effStore, effCall, effVar, effLit, effMake, effApp, Eff.ap, lend, evLit, evMake, evNil, freeze, onto, dropO, elemsV, sized, evCmp, eqT, eqG, minV, evUn, evField, evExtract, evIndexA, evIndexV, evSlice, optInt, fillV, placeOf, thawed, del, isNilSlice, plain, plainL, cellsJ, junkOk, evLook, evMap, evEnter, effEnter, findV, mapOf, keyOk, evFrame, unframe, closed, fixed, sameEs, pickObs, putObs, wit, sameWit, Option.isSome_some, evNilCheck, St.with, setSlots, setObs, wantedD, seqOf, noRange, setAll, Array.size, te, einl, inls, efr]

set_option maxHeartbeats 4000000 in
theorem c4 (f : Loft) (hs : List Int) (l : List Loft) : (orcω E X0).call 4 [encL f, .sl false (hs.map vI), .sl false (l.map encL)] = some (.bool true) := by
  refine call_of rfl fn4 rfl ?_
  have k1 := c26 f hs
  have k2 := c27 f hs
  have k3 := c28 hs
  have k4 := c29 hs
  have k5 := c30 l
  have k6 := c31 l
  generalize warmthR f hs = r at *
  unfold encI2 at k1 k2
  rw [show encL f = .agg [.int .i64 f.poles, .sl false (f.rates.map vI)] from rfl] at k1 k2 ⊢
  simp (maxSteps := 1000000) (implicitDefEqProofs := false) only [Try.ntmps4, Try.results4, efc4, k1, k2, k3, k4, k5, k6, c25, beq_self_eq_true, ss, List.replicate, evOp, evPlain, evVal, evMem, St.eval, St.put, St.get, constV, List.set, lenV, sliceOf, arrayOf, fieldsOf, normOf, norm, firstRegion, look, maskFrom, evBin, evIndexS, evLoad, evVar, evStore, evFieldAddr, nameOf, St.alloc, St.drop, killL, kill, killAll, killObs, killOb, upd, cells?, part, retag, retagL, putIn, refFree, refFreeL, isNew, isNewL, Ty.isAgg, splice, idsL, ids, idsLL, reach, depth, St.dropL, resultsV, resultV, ↓reduceIte, Nat.reduceBEq, Nat.reduceAdd, Nat.reduceSub, Nat.reduceMul, Nat.reduceEqDiff, Nat.reduceLeDiff, Nat.reduceLT, effOf, effMem, effStore, effCall, effVar, effLit, effMake, effApp, Eff.ap, lend, evLit, evMake, evNil, freeze, onto, dropO, elemsV, sized, evCmp, eqT, eqG, minV, evUn, evField, evExtract, evIndexA, evIndexV, evSlice, optInt, fillV, placeOf, thawed, del, isNilSlice, plain, plainL, cellsJ, junkOk, evLook, evMap, evEnter, effEnter, findV, mapOf, keyOk, evFrame, unframe, closed, fixed, sameEs, pickObs, putObs, wit, sameWit, Option.isSome_some, evNilCheck, St.with, setSlots, setObs, wantedD, seqOf, noRange, setAll, Array.size, te, einl, inls, efr]
end Go.AM.B
