/-
LoftChecks: both checks answer alike.
-/
import Derived.Test.YtbfgifolmpmagaaBCheckG
import Derived.Test.YtbfgifolmpmagaaBLarge
set_option linter.unusedSimpArgs false

namespace Go.AM.B
open Go Go.AM Go.Proofs

theorem okT12 : okCode (Try.f12.body.getD .skip) = true := by decide +kernel

set_option maxHeartbeats 8000000 in
theorem c12 (l : List Loft) (gs : List Goods) (plan : List Load) : (orcω E X0).call 12 [.agg [.sl false (l.map encL), .sl false (gs.map encG)], .sl false (plan.map encLd)] = some (.bool true) := by
  refine call_of rfl fn12 rfl ?_
  have hok := okT12
  simp only [Try.f12, Option.getD_some, okCode, Bool.and_eq_true, Bool.and_true, Bool.true_and] at hok
  have k1 := c40 l gs plan
  cases hl : largeM l gs plan with
  | true =>
    rw [hl] at k1
    simp (maxSteps := 1000000) (implicitDefEqProofs := false) only [Try.ntmps12, Try.results12, efc12, k1, c25, ss, List.replicate, evOp, evPlain, evVal, evMem, St.eval, St.put, St.get, constV, List.set, lenV, sliceOf, arrayOf, fieldsOf, normOf, norm, firstRegion, look, maskFrom, evBin, evIndexS, evLoad, evVar, evStore, evFieldAddr, nameOf, St.alloc, St.drop, killL, kill, killAll, killObs, killOb, upd, cells?, part, retag, retagL, putIn, refFree, refFreeL, isNew, isNewL, Ty.isAgg, splice, idsL, ids, idsLL, reach, depth, St.dropL, resultsV, resultV, ↓reduceIte, Nat.reduceBEq, Nat.reduceAdd, Nat.reduceSub, Nat.reduceMul, Nat.reduceEqDiff, Nat.reduceLeDiff, Nat.reduceLT, effOf, effMem, effStore, effCall, effVar, effLit, effMake, effApp, Eff.ap, lend, evLit, evMake, evNil, freeze, onto, dropO, elemsV, sized, evCmp, eqT, eqG, minV, evUn, evField, evExtract, evIndexA, evIndexV, evSlice, optInt, fillV, placeOf, thawed, del, isNilSlice, plain, plainL, cellsJ, junkOk, evLook, evMap, evEnter, effEnter, findV, mapOf, keyOk, evFrame, unframe, closed, fixed, sameEs, pickObs, putObs, wit, sameWit, Option.isSome_some, evNilCheck, St.with, setSlots, setObs, wantedD, seqOf, noRange, setAll, Array.size, te, einl, inls, efr]
  | false =>
    obtain ⟨n1, n2, n3, n4⟩ := large_no hl
    have hlong : ∀ x ∈ plan, longLd x = false := fun x hx => by
      cases h : longLd x with
      | false => rfl
      | true => rw [List.any_eq_true.2 ⟨x, hx, h⟩] at n4; cases n4
    have q4 : ∀ x ∈ plan, x.heats.length ≤ 1000 := fun x hx => by
      have := hlong x hx
      simp only [longLd, Bool.or_eq_false_iff, decide_eq_false_iff_not] at this
      omega
    have q6 : ∀ x ∈ plan, x.goods.length ≤ 1000000 := fun x hx => by
      have := hlong x hx
      simp only [longLd, Bool.or_eq_false_iff, decide_eq_false_iff_not] at this
      omega
    have k2 := c41 gs (by omega)
    have k3 := c51 gs (by omega)
    have k4 := c52 l gs plan (by omega) (by omega) (by omega) q4 q6
    have k5 := c53 l gs plan (by omega) (by omega) (by omega) q4 q6
    rw [hl] at k1
    simp (maxSteps := 1000000) (implicitDefEqProofs := false) only [Try.ntmps12, Try.results12, efc12, k1, k2, k3, k4, k5, c25, bne_self_eq_false, beq_self_eq_true, evRegion_st hok, ss, List.replicate, evOp, evPlain, evVal, evMem, St.eval, St.put, St.get, constV, List.set, lenV, sliceOf, arrayOf, fieldsOf, normOf, norm, firstRegion, look, maskFrom, evBin, evIndexS, evLoad, evVar, evStore, evFieldAddr, nameOf, St.alloc, St.drop, killL, kill, killAll, killObs, killOb, upd, cells?, part, retag, retagL, putIn, refFree, refFreeL, isNew, isNewL, Ty.isAgg, splice, idsL, ids, idsLL, reach, depth, St.dropL, resultsV, resultV, ↓reduceIte, Nat.reduceBEq, Nat.reduceAdd, Nat.reduceSub, Nat.reduceMul, Nat.reduceEqDiff, Nat.reduceLeDiff, Nat.reduceLT, effOf, effMem, effStore, effCall, effVar, effLit, effMake, effApp, Eff.ap, lend, evLit, evMake, evNil, freeze, onto, dropO, elemsV, sized, evCmp, eqT, eqG, minV, evUn, evField, evExtract, evIndexA, evIndexV, evSlice, optInt, fillV, placeOf, thawed, del, isNilSlice, plain, plainL, cellsJ, junkOk, evLook, evMap, evEnter, effEnter, findV, mapOf, keyOk, evFrame, unframe, closed, fixed, sameEs, pickObs, putObs, wit, sameWit, Option.isSome_some, evNilCheck, St.with, setSlots, setObs, wantedD, seqOf, noRange, setAll, Array.size, te, einl, inls, efr]
end Go.AM.B
