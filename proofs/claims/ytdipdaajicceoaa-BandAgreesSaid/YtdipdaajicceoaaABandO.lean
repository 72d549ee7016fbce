import Derived.Test.YtdipdaajicceoaaABandN
set_option linter.unusedSimpArgs false
namespace Go.AM.A
open Go Go.Proofs

def plOb (out : List Int) : List (Nat × Ob) := match out with
  | [] => [(5, { es := 1, flat := true, t := true, app := false, elems := [.emp] })]
  | _ => [(5, { es := 1, flat := false, t := true, app := false, elems := [.own 22 0 out.length] }), (22, { es := 1, flat := true, t := true, app := true, elems := out.map vI })]

theorem plOb_ne {out : List Int} (h : out ≠ []) : plOb out = [(5, { es := 1, flat := false, t := true, app := false, elems := [.own 22 0 out.length] }), (22, { es := 1, flat := true, t := true, app := true, elems := out.map vI })] := by
  cases out with
  | nil => exact absurd rfl h
  | cons _ _ => rfl

theorem c35 (rs : List Run) (hn : rs.length ≤ 100000) : (orcω E X0).call 35 [.sl false (rs.map encRun)] = some (encPl (placesM rs)) := by
  refine call_of rfl fn35 rfl ?_
  have h1 := c23 false rs (by omega)
  by_cases hv : validate rs = 0
  · have ho := (valid_okay hv).1
    have h2 := c75 false rs (by omega)
    obtain ⟨j1, j2⟩ := joined_okay ho
    have j3 := joined_le rs
    have j4 := j1.2
    rw [hv] at h1
    have h3 := c73 (joinedL rs)
    have h4 := eseq_each false false (joinedL rs) (by omega)
    simp (maxSteps := 1000000) (implicitDefEqProofs := false) only [Try.ntmps35, Try.results35, efc35, h1, h2, h3, h4, bne_self_eq_false, ss, List.replicate, evOp, evPlain, evVal, evMem, St.eval, St.put, St.get, constV, List.set, lenV, sliceOf, arrayOf, fieldsOf, normOf, norm, firstRegion, look, maskFrom, evBin, evIndexS, evLoad, evVar, evStore, evFieldAddr, nameOf, St.alloc, St.drop, killL, kill, killAll, killObs, killOb, upd, cells?, part, retag, retagL, putIn, refFree, refFreeL, isNew, isNewL, Ty.isAgg, splice, idsL, ids, idsLL, reach, depth, St.dropL, resultsV, resultV, ↓reduceIte, Nat.reduceBEq, Nat.reduceAdd, Nat.reduceSub, Nat.reduceMul, Nat.reduceEqDiff, Nat.reduceLeDiff, Nat.reduceLT, effOf, effMem, effStore, effCall, effVar, effLit, effMake, effApp, Eff.ap, lend, evLit, evMake, evNil, freeze, onto, dropO, elemsV, sized, evCmp, eqT, eqG, minV, evUn, evField, evExtract, evIndexA, evIndexV, evSlice, optInt, fillV, placeOf, thawed, del, isNilSlice, plain, plainL, cellsJ, junkOk, St.with, setSlots, setObs, wantedD, seqOf, noRange, setAll, Array.size, ty1, ti1, ty2, ti2, ty3, ti3, ty4, ti4, ty22, ti22, ty26, ti26, ty38, ti38, ty41, ti41, ty53, ti53, ty54, ti54, ty60, ti60, ty63, ti63, ty68, ti68, ty69, ti69, ty80, ti80, ty81, ti81, ty87, ti87, ty88, ti88, ty90, ti90, ty91, ti91, ty92, ti92, ty94, ti94, ty95, ti95, einl, inls]
    simp only [placesM, if_pos hv]
    generalize joinedL rs = js at *
    generalize hr : popped (roundsIn _ _ _ _ _ _) = r; revert r
    refine rounds_runs js (fun pre _ => plOb (starts js pre.length)) (fun _ (_ : Unit) => True) () (by simp only [starts, List.length_nil, Nat.zero_sub, List.range_zero, List.map_nil, plOb]; simp (maxSteps := 1000000) (implicitDefEqProofs := false) only [ss, List.replicate, evOp, evPlain, evVal, evMem, St.eval, St.put, St.get, constV, List.set, lenV, sliceOf, arrayOf, fieldsOf, normOf, norm, firstRegion, look, maskFrom, evBin, evIndexS, evLoad, evVar, evStore, evFieldAddr, nameOf, St.alloc, St.drop, killL, kill, killAll, killObs, killOb, upd, cells?, part, retag, retagL, putIn, refFree, refFreeL, isNew, isNewL, Ty.isAgg, splice, idsL, ids, idsLL, reach, depth, St.dropL, resultsV, resultV, ↓reduceIte, Nat.reduceBEq, Nat.reduceAdd, Nat.reduceSub, Nat.reduceMul, Nat.reduceEqDiff, Nat.reduceLeDiff, Nat.reduceLT, effOf, effMem, effStore, effCall, effVar, effLit, effMake, effApp, Eff.ap, lend, evLit, evMake, evNil, freeze, onto, dropO, elemsV, sized, evCmp, eqT, eqG, minV, evUn, evField, evExtract, evIndexA, evIndexV, evSlice, optInt, fillV, placeOf, thawed, del, isNilSlice, plain, plainL, cellsJ, junkOk, St.with, setSlots, setObs, wantedD, seqOf, noRange, setAll, Array.size, ty1, ti1, ty2, ti2, ty3, ti3, ty4, ti4, ty22, ti22, ty26, ti26, ty38, ti38, ty41, ti41, ty53, ti53, ty54, ti54, ty60, ti60, ty63, ti63, ty68, ti68, ty69, ti69, ty80, ti80, ty81, ti81, ty87, ti87, ty88, ti88, ty90, ti90, ty91, ti91, ty92, ti92, ty94, ti94, ty95, ti95, einl, inls]) trivial (fun _ _ => ?_) (fun pre r post _ hp _ => ?_)
    · cases hc : starts js js.length with
      | nil => simp (maxSteps := 1000000) (implicitDefEqProofs := false) only [plOb, Try.ntmps35, Try.results35, efc35, ss, List.replicate, evOp, evPlain, evVal, evMem, St.eval, St.put, St.get, constV, List.set, lenV, sliceOf, arrayOf, fieldsOf, normOf, norm, firstRegion, look, maskFrom, evBin, evIndexS, evLoad, evVar, evStore, evFieldAddr, nameOf, St.alloc, St.drop, killL, kill, killAll, killObs, killOb, upd, cells?, part, retag, retagL, putIn, refFree, refFreeL, isNew, isNewL, Ty.isAgg, splice, idsL, ids, idsLL, reach, depth, St.dropL, resultsV, resultV, ↓reduceIte, Nat.reduceBEq, Nat.reduceAdd, Nat.reduceSub, Nat.reduceMul, Nat.reduceEqDiff, Nat.reduceLeDiff, Nat.reduceLT, effOf, effMem, effStore, effCall, effVar, effLit, effMake, effApp, Eff.ap, lend, evLit, evMake, evNil, freeze, onto, dropO, elemsV, sized, evCmp, eqT, eqG, minV, evUn, evField, evExtract, evIndexA, evIndexV, evSlice, optInt, fillV, placeOf, thawed, del, isNilSlice, plain, plainL, cellsJ, junkOk, St.with, setSlots, setObs, wantedD, seqOf, noRange, setAll, Array.size, ty1, ti1, ty2, ti2, ty3, ti3, ty4, ti4, ty22, ti22, ty26, ti26, ty38, ti38, ty41, ti41, ty53, ti53, ty54, ti54, ty60, ti60, ty63, ti63, ty68, ti68, ty69, ti69, ty80, ti80, ty81, ti81, ty87, ti87, ty88, ti88, ty90, ti90, ty91, ti91, ty92, ti92, ty94, ti94, ty95, ti95, einl, inls]; simp [encPl, hc]
      | cons x l => simp (maxSteps := 1000000) (implicitDefEqProofs := false) only [plOb, Try.ntmps35, Try.results35, efc35, ss, List.replicate, evOp, evPlain, evVal, evMem, St.eval, St.put, St.get, constV, List.set, lenV, sliceOf, arrayOf, fieldsOf, normOf, norm, firstRegion, look, maskFrom, evBin, evIndexS, evLoad, evVar, evStore, evFieldAddr, nameOf, St.alloc, St.drop, killL, kill, killAll, killObs, killOb, upd, cells?, part, retag, retagL, putIn, refFree, refFreeL, isNew, isNewL, Ty.isAgg, splice, idsL, ids, idsLL, reach, depth, St.dropL, resultsV, resultV, ↓reduceIte, Nat.reduceBEq, Nat.reduceAdd, Nat.reduceSub, Nat.reduceMul, Nat.reduceEqDiff, Nat.reduceLeDiff, Nat.reduceLT, effOf, effMem, effStore, effCall, effVar, effLit, effMake, effApp, Eff.ap, lend, evLit, evMake, evNil, freeze, onto, dropO, elemsV, sized, evCmp, eqT, eqG, minV, evUn, evField, evExtract, evIndexA, evIndexV, evSlice, optInt, fillV, placeOf, thawed, del, isNilSlice, plain, plainL, cellsJ, junkOk, St.with, setSlots, setObs, wantedD, seqOf, noRange, setAll, Array.size, ty1, ti1, ty2, ti2, ty3, ti3, ty4, ti4, ty22, ti22, ty26, ti26, ty38, ti38, ty41, ti41, ty53, ti53, ty54, ti54, ty60, ti60, ty63, ti63, ty68, ti68, ty69, ti69, ty80, ti80, ty81, ti81, ty87, ti87, ty88, ti88, ty90, ti90, ty91, ti91, ty92, ti92, ty94, ti94, ty95, ti95, einl, inls]; simp [encPl, hc]
    · have h5 := okay_app (hp ▸ j1)
      have h6 := ln_total h5.1
      have h7 := okay_nonneg h5.1
      have h8 : pre.length ≤ js.length := by rw [hp]; simp
      have h9 : total (js.take pre.length) = total pre := by rw [hp]; simp
      have hl := starts_len js pre.length
      have hpos : 0 < pre.length → 0 < total pre := fun h => by
        cases pre with
        | nil => simp at h
        | cons x l =>
          have := h5.1.1 x List.mem_cons_self
          have := okay_nonneg (okay_app (pre := [x]) (post := l) h5.1).2
          rw [total_cons]; omega
      rcases Nat.eq_zero_or_pos pre.length with hz | hz
      · have hpre : pre = [] := List.eq_nil_of_length_eq_zero hz
        subst hpre
        have e1 : starts js ([] : List Run).length = [] := rfl
        have e2 : starts js ([] ++ [r]).length = [] := rfl
        have a1 : ¬ (0 : Int) < total [] := by simp [total]
        rw [e1, e2]
        simp only [plOb]
        simp (maxSteps := 1000000) (implicitDefEqProofs := false) only [h6, a1, ss, List.replicate, evOp, evPlain, evVal, evMem, St.eval, St.put, St.get, constV, List.set, lenV, sliceOf, arrayOf, fieldsOf, normOf, norm, firstRegion, look, maskFrom, evBin, evIndexS, evLoad, evVar, evStore, evFieldAddr, nameOf, St.alloc, St.drop, killL, kill, killAll, killObs, killOb, upd, cells?, part, retag, retagL, putIn, refFree, refFreeL, isNew, isNewL, Ty.isAgg, splice, idsL, ids, idsLL, reach, depth, St.dropL, resultsV, resultV, ↓reduceIte, Nat.reduceBEq, Nat.reduceAdd, Nat.reduceSub, Nat.reduceMul, Nat.reduceEqDiff, Nat.reduceLeDiff, Nat.reduceLT, effOf, effMem, effStore, effCall, effVar, effLit, effMake, effApp, Eff.ap, lend, evLit, evMake, evNil, freeze, onto, dropO, elemsV, sized, evCmp, eqT, eqG, minV, evUn, evField, evExtract, evIndexA, evIndexV, evSlice, optInt, fillV, placeOf, thawed, del, isNilSlice, plain, plainL, cellsJ, junkOk, St.with, setSlots, setObs, wantedD, seqOf, noRange, setAll, Array.size, ty1, ti1, ty2, ti2, ty3, ti3, ty4, ti4, ty22, ti22, ty26, ti26, ty38, ti38, ty41, ti41, ty53, ti53, ty54, ti54, ty60, ti60, ty63, ti63, ty68, ti68, ty69, ti69, ty80, ti80, ty81, ti81, ty87, ti87, ty88, ti88, ty90, ti90, ty91, ti91, ty92, ti92, ty94, ti94, ty95, ti95, einl, inls]
        simp
      · have a1 := hpos hz
        have e2 : starts js (pre ++ [r]).length = starts js pre.length ++ [total pre] := by
          rw [List.length_append, List.length_cons, List.length_nil, starts_succ js hz, h9]
        rw [e2]
        generalize starts js pre.length = out at *
        have hroom1 : roomy 1 8 = true := by simp [roomy]
        have hroom : roomy (out.length + 1) 8 = true := by simp [roomy]; omega
        have hbig : out.length + 1 ≤ 4294967296 := by omega
        rcases List.eq_nil_or_concat out with hc | ⟨l', x', hc⟩
        · subst hc
          simp only [plOb]
          simp (maxSteps := 1000000) (implicitDefEqProofs := false) only [h6, a1, hroom1, ss, List.replicate, evOp, evPlain, evVal, evMem, St.eval, St.put, St.get, constV, List.set, lenV, sliceOf, arrayOf, fieldsOf, normOf, norm, firstRegion, look, maskFrom, evBin, evIndexS, evLoad, evVar, evStore, evFieldAddr, nameOf, St.alloc, St.drop, killL, kill, killAll, killObs, killOb, upd, cells?, part, retag, retagL, putIn, refFree, refFreeL, isNew, isNewL, Ty.isAgg, splice, idsL, ids, idsLL, reach, depth, St.dropL, resultsV, resultV, ↓reduceIte, Nat.reduceBEq, Nat.reduceAdd, Nat.reduceSub, Nat.reduceMul, Nat.reduceEqDiff, Nat.reduceLeDiff, Nat.reduceLT, effOf, effMem, effStore, effCall, effVar, effLit, effMake, effApp, Eff.ap, lend, evLit, evMake, evNil, freeze, onto, dropO, elemsV, sized, evCmp, eqT, eqG, minV, evUn, evField, evExtract, evIndexA, evIndexV, evSlice, optInt, fillV, placeOf, thawed, del, isNilSlice, plain, plainL, cellsJ, junkOk, St.with, setSlots, setObs, wantedD, seqOf, noRange, setAll, Array.size, ty1, ti1, ty2, ti2, ty3, ti3, ty4, ti4, ty22, ti22, ty26, ti26, ty38, ti38, ty41, ti41, ty53, ti53, ty54, ti54, ty60, ti60, ty63, ti63, ty68, ti68, ty69, ti69, ty80, ti80, ty81, ti81, ty87, ti87, ty88, ti88, ty90, ti90, ty91, ti91, ty92, ti92, ty94, ti94, ty95, ti95, einl, inls]
          simp [plOb, vI]
        · have hne : out ≠ [] := by rw [hc]; simp
          rw [plOb_ne hne, plOb_ne (by simp)]
          simp (maxSteps := 1000000) (implicitDefEqProofs := false) only [h6, a1, hroom, hbig, ss, List.replicate, evOp, evPlain, evVal, evMem, St.eval, St.put, St.get, constV, List.set, lenV, sliceOf, arrayOf, fieldsOf, normOf, norm, firstRegion, look, maskFrom, evBin, evIndexS, evLoad, evVar, evStore, evFieldAddr, nameOf, St.alloc, St.drop, killL, kill, killAll, killObs, killOb, upd, cells?, part, retag, retagL, putIn, refFree, refFreeL, isNew, isNewL, Ty.isAgg, splice, idsL, ids, idsLL, reach, depth, St.dropL, resultsV, resultV, ↓reduceIte, Nat.reduceBEq, Nat.reduceAdd, Nat.reduceSub, Nat.reduceMul, Nat.reduceEqDiff, Nat.reduceLeDiff, Nat.reduceLT, effOf, effMem, effStore, effCall, effVar, effLit, effMake, effApp, Eff.ap, lend, evLit, evMake, evNil, freeze, onto, dropO, elemsV, sized, evCmp, eqT, eqG, minV, evUn, evField, evExtract, evIndexA, evIndexV, evSlice, optInt, fillV, placeOf, thawed, del, isNilSlice, plain, plainL, cellsJ, junkOk, St.with, setSlots, setObs, wantedD, seqOf, noRange, setAll, Array.size, ty1, ti1, ty2, ti2, ty3, ti3, ty4, ti4, ty22, ti22, ty26, ti26, ty38, ti38, ty41, ti41, ty53, ti53, ty54, ti54, ty60, ti60, ty63, ti63, ty68, ti68, ty69, ti69, ty80, ti80, ty81, ti81, ty87, ti87, ty88, ti88, ty90, ti90, ty91, ti91, ty92, ti92, ty94, ti94, ty95, ti95, einl, inls]
          simp [vI]
  · have hv' : (validate rs != 0) = true := by simp [hv]
    simp (maxSteps := 1000000) (implicitDefEqProofs := false) only [Try.ntmps35, Try.results35, efc35, h1, hv', ss, List.replicate, evOp, evPlain, evVal, evMem, St.eval, St.put, St.get, constV, List.set, lenV, sliceOf, arrayOf, fieldsOf, normOf, norm, firstRegion, look, maskFrom, evBin, evIndexS, evLoad, evVar, evStore, evFieldAddr, nameOf, St.alloc, St.drop, killL, kill, killAll, killObs, killOb, upd, cells?, part, retag, retagL, putIn, refFree, refFreeL, isNew, isNewL, Ty.isAgg, splice, idsL, ids, idsLL, reach, depth, St.dropL, resultsV, resultV, ↓reduceIte, Nat.reduceBEq, Nat.reduceAdd, Nat.reduceSub, Nat.reduceMul, Nat.reduceEqDiff, Nat.reduceLeDiff, Nat.reduceLT, effOf, effMem, effStore, effCall, effVar, effLit, effMake, effApp, Eff.ap, lend, evLit, evMake, evNil, freeze, onto, dropO, elemsV, sized, evCmp, eqT, eqG, minV, evUn, evField, evExtract, evIndexA, evIndexV, evSlice, optInt, fillV, placeOf, thawed, del, isNilSlice, plain, plainL, cellsJ, junkOk, St.with, setSlots, setObs, wantedD, seqOf, noRange, setAll, Array.size, ty1, ti1, ty2, ti2, ty3, ti3, ty4, ti4, ty22, ti22, ty26, ti26, ty38, ti38, ty41, ti41, ty53, ti53, ty54, ti54, ty60, ti60, ty63, ti63, ty68, ti68, ty69, ti69, ty80, ti80, ty81, ti81, ty87, ti87, ty88, ti88, ty90, ti90, ty91, ti91, ty92, ti92, ty94, ti94, ty95, ti95, einl, inls]
    simp [encPl, placesM, hv]

theorem placesM_len (rs : List Run) : (placesM rs).1.length ≤ rs.length := by
  unfold placesM
  split
  · have := joined_le rs
    simp [starts_len]; omega
  · exact Nat.zero_le _

theorem okT6 : okCode (Try.f6.body.getD .skip) = true := by decide +kernel

theorem c6 (xs : List Run) (p : Int) : (orcω E X0).call 6 [.sl false (xs.map encRun), .int .i64 p] = some (.bool true) := by
  refine call_of rfl fn6 rfl ?_
  have hok := okT6
  simp only [Try.f6, Option.getD_some, okCode, Bool.and_eq_true, Bool.and_true, Bool.true_and] at hok
  have k1 := c16 false xs
  by_cases hx : (100 : Int) < xs.length
  · simp only [hx, decide_true] at k1
    simp (maxSteps := 1000000) (implicitDefEqProofs := false) only [Try.ntmps6, Try.results6, efc6, fc6, k1, c17, ss, List.replicate, evOp, evPlain, evVal, evMem, St.eval, St.put, St.get, constV, List.set, lenV, sliceOf, arrayOf, fieldsOf, normOf, norm, firstRegion, look, maskFrom, evBin, evIndexS, evLoad, evVar, evStore, evFieldAddr, nameOf, St.alloc, St.drop, killL, kill, killAll, killObs, killOb, upd, cells?, part, retag, retagL, putIn, refFree, refFreeL, isNew, isNewL, Ty.isAgg, splice, idsL, ids, idsLL, reach, depth, St.dropL, resultsV, resultV, ↓reduceIte, Nat.reduceBEq, Nat.reduceAdd, Nat.reduceSub, Nat.reduceMul, Nat.reduceEqDiff, Nat.reduceLeDiff, Nat.reduceLT, effOf, effMem, effStore, effCall, effVar, effLit, effMake, effApp, Eff.ap, lend, evLit, evMake, evNil, freeze, onto, dropO, elemsV, sized, evCmp, eqT, eqG, minV, evUn, evField, evExtract, evIndexA, evIndexV, evSlice, optInt, fillV, placeOf, thawed, del, isNilSlice, plain, plainL, cellsJ, junkOk, St.with, setSlots, setObs, wantedD, seqOf, noRange, setAll, Array.size, ty1, ti1, ty2, ti2, ty3, ti3, ty4, ti4, ty22, ti22, ty26, ti26, ty38, ti38, ty41, ti41, ty53, ti53, ty54, ti54, ty60, ti60, ty63, ti63, ty68, ti68, ty69, ti69, ty80, ti80, ty81, ti81, ty87, ti87, ty88, ti88, ty90, ti90, ty91, ti91, ty92, ti92, ty94, ti94, ty95, ti95, einl, inls]
  simp only [hx, decide_false] at k1
  have k3 := c33 xs p (by omega)
  have k4 := c34 xs p (by omega)
  have k5 := c35 xs (by omega)
  have k6 := c36 xs (by omega)
  have l1 := placesM_len xs
  generalize atM xs p = A at *
  generalize placesM xs = J at *
  obtain ⟨m, me⟩ := A
  obtain ⟨js, je⟩ := J
  dsimp only at l1
  simp only [encAt, encMk, encPl] at k3 k4 k5 k6
  simp (maxSteps := 1000000) (implicitDefEqProofs := false) only [Try.ntmps6, Try.results6, efc6, fc6, k1, k3, k4, k5, k6, bne_self_eq_false, ss, List.replicate, evOp, evPlain, evVal, evMem, St.eval, St.put, St.get, constV, List.set, lenV, sliceOf, arrayOf, fieldsOf, normOf, norm, firstRegion, look, maskFrom, evBin, evIndexS, evLoad, evVar, evStore, evFieldAddr, nameOf, St.alloc, St.drop, killL, kill, killAll, killObs, killOb, upd, cells?, part, retag, retagL, putIn, refFree, refFreeL, isNew, isNewL, Ty.isAgg, splice, idsL, ids, idsLL, reach, depth, St.dropL, resultsV, resultV, ↓reduceIte, Nat.reduceBEq, Nat.reduceAdd, Nat.reduceSub, Nat.reduceMul, Nat.reduceEqDiff, Nat.reduceLeDiff, Nat.reduceLT, effOf, effMem, effStore, effCall, effVar, effLit, effMake, effApp, Eff.ap, lend, evLit, evMake, evNil, freeze, onto, dropO, elemsV, sized, evCmp, eqT, eqG, minV, evUn, evField, evExtract, evIndexA, evIndexV, evSlice, optInt, fillV, placeOf, thawed, del, isNilSlice, plain, plainL, cellsJ, junkOk, St.with, setSlots, setObs, wantedD, seqOf, noRange, setAll, Array.size, ty1, ti1, ty2, ti2, ty3, ti3, ty4, ti4, ty22, ti22, ty26, ti26, ty38, ti38, ty41, ti41, ty53, ti53, ty54, ti54, ty60, ti60, ty63, ti63, ty68, ti68, ty69, ti69, ty80, ti80, ty81, ti81, ty87, ti87, ty88, ti88, ty90, ti90, ty91, ti91, ty92, ti92, ty94, ti94, ty95, ti95, einl, inls]
  generalize hr : loopAt _ _ _ _ _ _ = r; revert r
  refine loop_list js (fun pre _ => [(13, .int .i64 pre.length)]) (fun _ _ => []) (fun _ (_ : Unit) => True) () (by omega) (by simp (maxSteps := 1000000) (implicitDefEqProofs := false) only [ss, List.replicate, evOp, evPlain, evVal, evMem, St.eval, St.put, St.get, constV, List.set, lenV, sliceOf, arrayOf, fieldsOf, normOf, norm, firstRegion, look, maskFrom, evBin, evIndexS, evLoad, evVar, evStore, evFieldAddr, nameOf, St.alloc, St.drop, killL, kill, killAll, killObs, killOb, upd, cells?, part, retag, retagL, putIn, refFree, refFreeL, isNew, isNewL, Ty.isAgg, splice, idsL, ids, idsLL, reach, depth, St.dropL, resultsV, resultV, ↓reduceIte, Nat.reduceBEq, Nat.reduceAdd, Nat.reduceSub, Nat.reduceMul, Nat.reduceEqDiff, Nat.reduceLeDiff, Nat.reduceLT, effOf, effMem, effStore, effCall, effVar, effLit, effMake, effApp, Eff.ap, lend, evLit, evMake, evNil, freeze, onto, dropO, elemsV, sized, evCmp, eqT, eqG, minV, evUn, evField, evExtract, evIndexA, evIndexV, evSlice, optInt, fillV, placeOf, thawed, del, isNilSlice, plain, plainL, cellsJ, junkOk, St.with, setSlots, setObs, wantedD, seqOf, noRange, setAll, Array.size, ty1, ti1, ty2, ti2, ty3, ti3, ty4, ti4, ty22, ti22, ty26, ti26, ty38, ti38, ty41, ti41, ty53, ti53, ty54, ti54, ty60, ti60, ty63, ti63, ty68, ti68, ty69, ti69, ty80, ti80, ty81, ti81, ty87, ti87, ty88, ti88, ty90, ti90, ty91, ti91, ty92, ti92, ty94, ti94, ty95, ti95, einl, inls]) trivial (fun _ _ => ?_) (fun pre x post _ hp _ g1 g2 g3 g4 => ?_)
  · simp (maxSteps := 1000000) (implicitDefEqProofs := false) only [Int.lt_irrefl, Try.ntmps6, Try.results6, efc6, fc6, c17, ss, List.replicate, evOp, evPlain, evVal, evMem, St.eval, St.put, St.get, constV, List.set, lenV, sliceOf, arrayOf, fieldsOf, normOf, norm, firstRegion, look, maskFrom, evBin, evIndexS, evLoad, evVar, evStore, evFieldAddr, nameOf, St.alloc, St.drop, killL, kill, killAll, killObs, killOb, upd, cells?, part, retag, retagL, putIn, refFree, refFreeL, isNew, isNewL, Ty.isAgg, splice, idsL, ids, idsLL, reach, depth, St.dropL, resultsV, resultV, ↓reduceIte, Nat.reduceBEq, Nat.reduceAdd, Nat.reduceSub, Nat.reduceMul, Nat.reduceEqDiff, Nat.reduceLeDiff, Nat.reduceLT, effOf, effMem, effStore, effCall, effVar, effLit, effMake, effApp, Eff.ap, lend, evLit, evMake, evNil, freeze, onto, dropO, elemsV, sized, evCmp, eqT, eqG, minV, evUn, evField, evExtract, evIndexA, evIndexV, evSlice, optInt, fillV, placeOf, thawed, del, isNilSlice, plain, plainL, cellsJ, junkOk, St.with, setSlots, setObs, wantedD, seqOf, noRange, setAll, Array.size, ty1, ti1, ty2, ti2, ty3, ti3, ty4, ti4, ty22, ti22, ty26, ti26, ty38, ti38, ty41, ti41, ty53, ti53, ty54, ti54, ty60, ti60, ty63, ti63, ty68, ti68, ty69, ti69, ty80, ti80, ty81, ti81, ty87, ti87, ty88, ti88, ty90, ti90, ty91, ti91, ty92, ti92, ty94, ti94, ty95, ti95, einl, inls]
  · simp (maxSteps := 1000000) (implicitDefEqProofs := false) only [g1, g2, g3, g4, Int.natCast_nonneg, Int.toNat_natCast, List.getElem?_map, vI, hok, evRegion_st, bne_self_eq_false, ss, List.replicate, evOp, evPlain, evVal, evMem, St.eval, St.put, St.get, constV, List.set, lenV, sliceOf, arrayOf, fieldsOf, normOf, norm, firstRegion, look, maskFrom, evBin, evIndexS, evLoad, evVar, evStore, evFieldAddr, nameOf, St.alloc, St.drop, killL, kill, killAll, killObs, killOb, upd, cells?, part, retag, retagL, putIn, refFree, refFreeL, isNew, isNewL, Ty.isAgg, splice, idsL, ids, idsLL, reach, depth, St.dropL, resultsV, resultV, ↓reduceIte, Nat.reduceBEq, Nat.reduceAdd, Nat.reduceSub, Nat.reduceMul, Nat.reduceEqDiff, Nat.reduceLeDiff, Nat.reduceLT, effOf, effMem, effStore, effCall, effVar, effLit, effMake, effApp, Eff.ap, lend, evLit, evMake, evNil, freeze, onto, dropO, elemsV, sized, evCmp, eqT, eqG, minV, evUn, evField, evExtract, evIndexA, evIndexV, evSlice, optInt, fillV, placeOf, thawed, del, isNilSlice, plain, plainL, cellsJ, junkOk, St.with, setSlots, setObs, wantedD, seqOf, noRange, setAll, Array.size, ty1, ti1, ty2, ti2, ty3, ti3, ty4, ti4, ty22, ti22, ty26, ti26, ty38, ti38, ty41, ti41, ty53, ti53, ty54, ti54, ty60, ti60, ty63, ti63, ty68, ti68, ty69, ti69, ty80, ti80, ty81, ti81, ty87, ti87, ty88, ti88, ty90, ti90, ty91, ti91, ty92, ti92, ty94, ti94, ty95, ti95, einl, inls]
    exact ⟨(), trivial⟩

end Go.AM.A
