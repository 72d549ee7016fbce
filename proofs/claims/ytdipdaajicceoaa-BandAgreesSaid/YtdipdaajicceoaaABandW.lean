import Derived.Test.YtdipdaajicceoaaABandV
set_option linter.unusedSimpArgs false
namespace Go.AM.A
open Go Go.Proofs

theorem agree_at {xs ys : List Run} (h1 : validate xs = 0) (h2 : validate ys = 0) :
    (decide ((atM xs (cpl (expand xs) (expand ys) : Nat)).2 ≠ 0) || (decide ((atM ys (cpl (expand xs) (expand ys) : Nat)).2 ≠ 0) || decide ((atM xs (cpl (expand xs) (expand ys) : Nat)).1 ≠ (atM ys (cpl (expand xs) (expand ys) : Nat)).1))) = true := by
  have h3 := cpl_next (expand xs) (expand ys)
  generalize cpl (expand xs) (expand ys) = n at *
  unfold atM
  rw [if_pos h1, if_pos h2, if_pos (Int.natCast_nonneg n), if_pos (Int.natCast_nonneg n), Int.toNat_natCast]
  cases hx : (expand xs)[n]? with
  | none => simp
  | some m =>
    cases hy : (expand ys)[n]? with
    | none => simp
    | some k =>
      have := h3 m hx
      rw [hy] at this
      simp at this
      simp
      exact fun e => this e.symm

theorem c12 (xs ys : List Run) : (orcω E X0).call 12 [.sl false (xs.map encRun), .sl false (ys.map encRun)] = some (.bool true) := by
  refine call_of rfl fn12 rfl ?_
  have k1 := c16 false xs
  have k2 := c16 false ys
  by_cases hx : (100 : Int) < xs.length
  · simp only [hx, decide_true] at k1
    simp (maxSteps := 1000000) (implicitDefEqProofs := false) only [Try.ntmps12, Try.results12, efc12, k1, c17, ss, List.replicate, evOp, evPlain, evVal, evMem, St.eval, St.put, St.get, constV, List.set, lenV, sliceOf, arrayOf, fieldsOf, normOf, norm, firstRegion, look, maskFrom, evBin, evIndexS, evLoad, evVar, evStore, evFieldAddr, nameOf, St.alloc, St.drop, killL, kill, killAll, killObs, killOb, upd, cells?, part, retag, retagL, putIn, refFree, refFreeL, isNew, isNewL, Ty.isAgg, splice, idsL, ids, idsLL, reach, depth, St.dropL, resultsV, resultV, ↓reduceIte, Nat.reduceBEq, Nat.reduceAdd, Nat.reduceSub, Nat.reduceMul, Nat.reduceEqDiff, Nat.reduceLeDiff, Nat.reduceLT, effOf, effMem, effStore, effCall, effVar, effLit, effMake, effApp, Eff.ap, lend, evLit, evMake, evNil, freeze, onto, dropO, elemsV, sized, evCmp, eqT, eqG, minV, evUn, evField, evExtract, evIndexA, evIndexV, evSlice, optInt, fillV, placeOf, thawed, del, isNilSlice, plain, plainL, cellsJ, junkOk, St.with, setSlots, setObs, wantedD, seqOf, noRange, setAll, Array.size, ty1, ti1, ty2, ti2, ty3, ti3, ty4, ti4, ty22, ti22, ty26, ti26, ty38, ti38, ty41, ti41, ty53, ti53, ty54, ti54, ty60, ti60, ty63, ti63, ty68, ti68, ty69, ti69, ty80, ti80, ty81, ti81, ty87, ti87, ty88, ti88, ty90, ti90, ty91, ti91, ty92, ti92, ty94, ti94, ty95, ti95, einl, inls]
  by_cases hy : (100 : Int) < ys.length
  · simp only [hx, hy, decide_true, decide_false] at k1 k2
    simp (maxSteps := 1000000) (implicitDefEqProofs := false) only [Try.ntmps12, Try.results12, efc12, k1, k2, c17, ss, List.replicate, evOp, evPlain, evVal, evMem, St.eval, St.put, St.get, constV, List.set, lenV, sliceOf, arrayOf, fieldsOf, normOf, norm, firstRegion, look, maskFrom, evBin, evIndexS, evLoad, evVar, evStore, evFieldAddr, nameOf, St.alloc, St.drop, killL, kill, killAll, killObs, killOb, upd, cells?, part, retag, retagL, putIn, refFree, refFreeL, isNew, isNewL, Ty.isAgg, splice, idsL, ids, idsLL, reach, depth, St.dropL, resultsV, resultV, ↓reduceIte, Nat.reduceBEq, Nat.reduceAdd, Nat.reduceSub, Nat.reduceMul, Nat.reduceEqDiff, Nat.reduceLeDiff, Nat.reduceLT, effOf, effMem, effStore, effCall, effVar, effLit, effMake, effApp, Eff.ap, lend, evLit, evMake, evNil, freeze, onto, dropO, elemsV, sized, evCmp, eqT, eqG, minV, evUn, evField, evExtract, evIndexA, evIndexV, evSlice, optInt, fillV, placeOf, thawed, del, isNilSlice, plain, plainL, cellsJ, junkOk, St.with, setSlots, setObs, wantedD, seqOf, noRange, setAll, Array.size, ty1, ti1, ty2, ti2, ty3, ti3, ty4, ti4, ty22, ti22, ty26, ti26, ty38, ti38, ty41, ti41, ty53, ti53, ty54, ti54, ty60, ti60, ty63, ti63, ty68, ti68, ty69, ti69, ty80, ti80, ty81, ti81, ty87, ti87, ty88, ti88, ty90, ti90, ty91, ti91, ty92, ti92, ty94, ti94, ty95, ti95, einl, inls]
  simp only [hx, hy, decide_false] at k1 k2
  have k3 := c41 xs ys (by omega) (by omega)
  have k4 := c56 xs ys (by omega) (by omega)
  by_cases hv : both xs ys = 0
  · obtain ⟨v1, v2⟩ := both_zero hv
    have e1 := agree_at v1 v2
    have l1 := cpl_le_left (expand xs) (expand ys)
    have l2 := cpl_le_right (expand xs) (expand ys)
    have tk := cpl_take (expand xs) (expand ys)
    simp only [agreeM, if_pos hv, encLen] at k3 k4
    generalize cpl (expand xs) (expand ys) = n at *
    have s1 : spanM xs 0 n = true := (span_of v1).2 (by omega)
    have s2 : spanM ys 0 n = true := (span_of v2).2 (by omega)
    have k5 := c31 xs 0 n (by omega)
    have k6 := c31 ys 0 n (by omega)
    have k7 := c33 xs n (by omega)
    have k8 := c33 ys n (by omega)
    have l3 := slice_len v1 s1
    rw [slice_rle v1 s1] at k5
    rw [slice_rle v2 s2] at k6
    rw [show (0 : Int).toNat = 0 from rfl, List.drop_zero, Int.toNat_natCast] at k5 k6 l3
    rw [← tk] at k6
    generalize rle ((expand xs).take n) = js at *
    have k9 := c25 false false js js (by omega)
    generalize atM xs n = U at *
    generalize atM ys n = W at *
    obtain ⟨u, i⟩ := U
    obtain ⟨w, j⟩ := W
    simp only [encAt, encRes, decide_true] at k7 k8 k5 k6 k9
    dsimp only at e1
    by_cases a1 : i = 0
    · by_cases a2 : j = 0
      · have a3 : (u.thick == w.thick && (u.shade == w.shade && u.flaw == w.flaw)) = false := by
          subst a1; subst a2
          simp only [ne_eq, not_true_eq_false, decide_false, Bool.false_or, decide_eq_true_eq] at e1
          cases u; cases w
          simp only [Mk.mk.injEq] at e1
          simpa using e1
        subst a1; subst a2
        simp (maxSteps := 1000000) (implicitDefEqProofs := false) only [Try.ntmps12, Try.results12, efc12, k1, k2, k3, k4, k5, k6, k7, k8, k9, encMk, a3, bne_self_eq_false, beq_self_eq_true, c17, ss, List.replicate, evOp, evPlain, evVal, evMem, St.eval, St.put, St.get, constV, List.set, lenV, sliceOf, arrayOf, fieldsOf, normOf, norm, firstRegion, look, maskFrom, evBin, evIndexS, evLoad, evVar, evStore, evFieldAddr, nameOf, St.alloc, St.drop, killL, kill, killAll, killObs, killOb, upd, cells?, part, retag, retagL, putIn, refFree, refFreeL, isNew, isNewL, Ty.isAgg, splice, idsL, ids, idsLL, reach, depth, St.dropL, resultsV, resultV, ↓reduceIte, Nat.reduceBEq, Nat.reduceAdd, Nat.reduceSub, Nat.reduceMul, Nat.reduceEqDiff, Nat.reduceLeDiff, Nat.reduceLT, effOf, effMem, effStore, effCall, effVar, effLit, effMake, effApp, Eff.ap, lend, evLit, evMake, evNil, freeze, onto, dropO, elemsV, sized, evCmp, eqT, eqG, minV, evUn, evField, evExtract, evIndexA, evIndexV, evSlice, optInt, fillV, placeOf, thawed, del, isNilSlice, plain, plainL, cellsJ, junkOk, St.with, setSlots, setObs, wantedD, seqOf, noRange, setAll, Array.size, ty1, ti1, ty2, ti2, ty3, ti3, ty4, ti4, ty22, ti22, ty26, ti26, ty38, ti38, ty41, ti41, ty53, ti53, ty54, ti54, ty60, ti60, ty63, ti63, ty68, ti68, ty69, ti69, ty80, ti80, ty81, ti81, ty87, ti87, ty88, ti88, ty90, ti90, ty91, ti91, ty92, ti92, ty94, ti94, ty95, ti95, einl, inls]
      · have a2' : (j != 0) = true := by simp [a2]
        subst a1
        simp (maxSteps := 1000000) (implicitDefEqProofs := false) only [Try.ntmps12, Try.results12, efc12, k1, k2, k3, k4, k5, k6, k7, k8, k9, encMk, a2', bne_self_eq_false, beq_self_eq_true, c17, ss, List.replicate, evOp, evPlain, evVal, evMem, St.eval, St.put, St.get, constV, List.set, lenV, sliceOf, arrayOf, fieldsOf, normOf, norm, firstRegion, look, maskFrom, evBin, evIndexS, evLoad, evVar, evStore, evFieldAddr, nameOf, St.alloc, St.drop, killL, kill, killAll, killObs, killOb, upd, cells?, part, retag, retagL, putIn, refFree, refFreeL, isNew, isNewL, Ty.isAgg, splice, idsL, ids, idsLL, reach, depth, St.dropL, resultsV, resultV, ↓reduceIte, Nat.reduceBEq, Nat.reduceAdd, Nat.reduceSub, Nat.reduceMul, Nat.reduceEqDiff, Nat.reduceLeDiff, Nat.reduceLT, effOf, effMem, effStore, effCall, effVar, effLit, effMake, effApp, Eff.ap, lend, evLit, evMake, evNil, freeze, onto, dropO, elemsV, sized, evCmp, eqT, eqG, minV, evUn, evField, evExtract, evIndexA, evIndexV, evSlice, optInt, fillV, placeOf, thawed, del, isNilSlice, plain, plainL, cellsJ, junkOk, St.with, setSlots, setObs, wantedD, seqOf, noRange, setAll, Array.size, ty1, ti1, ty2, ti2, ty3, ti3, ty4, ti4, ty22, ti22, ty26, ti26, ty38, ti38, ty41, ti41, ty53, ti53, ty54, ti54, ty60, ti60, ty63, ti63, ty68, ti68, ty69, ti69, ty80, ti80, ty81, ti81, ty87, ti87, ty88, ti88, ty90, ti90, ty91, ti91, ty92, ti92, ty94, ti94, ty95, ti95, einl, inls]
    · have a1' : (i != 0) = true := by simp [a1]
      simp (maxSteps := 1000000) (implicitDefEqProofs := false) only [Try.ntmps12, Try.results12, efc12, k1, k2, k3, k4, k5, k6, k7, k8, k9, encMk, a1', bne_self_eq_false, beq_self_eq_true, c17, ss, List.replicate, evOp, evPlain, evVal, evMem, St.eval, St.put, St.get, constV, List.set, lenV, sliceOf, arrayOf, fieldsOf, normOf, norm, firstRegion, look, maskFrom, evBin, evIndexS, evLoad, evVar, evStore, evFieldAddr, nameOf, St.alloc, St.drop, killL, kill, killAll, killObs, killOb, upd, cells?, part, retag, retagL, putIn, refFree, refFreeL, isNew, isNewL, Ty.isAgg, splice, idsL, ids, idsLL, reach, depth, St.dropL, resultsV, resultV, ↓reduceIte, Nat.reduceBEq, Nat.reduceAdd, Nat.reduceSub, Nat.reduceMul, Nat.reduceEqDiff, Nat.reduceLeDiff, Nat.reduceLT, effOf, effMem, effStore, effCall, effVar, effLit, effMake, effApp, Eff.ap, lend, evLit, evMake, evNil, freeze, onto, dropO, elemsV, sized, evCmp, eqT, eqG, minV, evUn, evField, evExtract, evIndexA, evIndexV, evSlice, optInt, fillV, placeOf, thawed, del, isNilSlice, plain, plainL, cellsJ, junkOk, St.with, setSlots, setObs, wantedD, seqOf, noRange, setAll, Array.size, ty1, ti1, ty2, ti2, ty3, ti3, ty4, ti4, ty22, ti22, ty26, ti26, ty38, ti38, ty41, ti41, ty53, ti53, ty54, ti54, ty60, ti60, ty63, ti63, ty68, ti68, ty69, ti69, ty80, ti80, ty81, ti81, ty87, ti87, ty88, ti88, ty90, ti90, ty91, ti91, ty92, ti92, ty94, ti94, ty95, ti95, einl, inls]
  · have hv' : (both xs ys != 0) = true := by simp [hv]
    simp only [agreeM, if_neg hv, encLen] at k3 k4
    simp (maxSteps := 1000000) (implicitDefEqProofs := false) only [Try.ntmps12, Try.results12, efc12, k1, k2, k3, k4, hv', bne_self_eq_false, beq_self_eq_true, c17, ss, List.replicate, evOp, evPlain, evVal, evMem, St.eval, St.put, St.get, constV, List.set, lenV, sliceOf, arrayOf, fieldsOf, normOf, norm, firstRegion, look, maskFrom, evBin, evIndexS, evLoad, evVar, evStore, evFieldAddr, nameOf, St.alloc, St.drop, killL, kill, killAll, killObs, killOb, upd, cells?, part, retag, retagL, putIn, refFree, refFreeL, isNew, isNewL, Ty.isAgg, splice, idsL, ids, idsLL, reach, depth, St.dropL, resultsV, resultV, ↓reduceIte, Nat.reduceBEq, Nat.reduceAdd, Nat.reduceSub, Nat.reduceMul, Nat.reduceEqDiff, Nat.reduceLeDiff, Nat.reduceLT, effOf, effMem, effStore, effCall, effVar, effLit, effMake, effApp, Eff.ap, lend, evLit, evMake, evNil, freeze, onto, dropO, elemsV, sized, evCmp, eqT, eqG, minV, evUn, evField, evExtract, evIndexA, evIndexV, evSlice, optInt, fillV, placeOf, thawed, del, isNilSlice, plain, plainL, cellsJ, junkOk, St.with, setSlots, setObs, wantedD, seqOf, noRange, setAll, Array.size, ty1, ti1, ty2, ti2, ty3, ti3, ty4, ti4, ty22, ti22, ty26, ti26, ty38, ti38, ty41, ti41, ty53, ti53, ty54, ti54, ty60, ti60, ty63, ti63, ty68, ti68, ty69, ti69, ty80, ti80, ty81, ti81, ty87, ti87, ty88, ti88, ty90, ti90, ty91, ti91, ty92, ti92, ty94, ti94, ty95, ti95, einl, inls]

end Go.AM.A
