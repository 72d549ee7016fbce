/- A part of the proof: the texts ABandO, ABandP, one after another. No condition. -/
import Derived.Test.YtdipdaajicceoaaAQ
set_option linter.unusedSimpArgs false

section
namespace Go.AM.A
open Go Go.Proofs

def plOb (out : List Int) : List (Nat × Ob) := match out with
  | [] => [(5, { es := 1, flat := true, t := true, app := false, elems := [.emp] })]
  | _ => [(5, { es := 1, flat := false, t := true, app := false, elems := [.own 22 0 out.length] }), (22, { es := 1, flat := true, t := true, app := true, elems := out.map vI })]

theorem plOb_ne {out : List Int} (h : out ≠ []) : plOb out = [(5, { es := 1, flat := false, t := true, app := false, elems := [.own 22 0 out.length] }), (22, { es := 1, flat := true, t := true, app := true, elems := out.map vI })] := by
  cases out with
  | nil => exact absurd rfl h
  | cons _ _ => rfl

theorem c35 (rs : List Run) (hn : rs.length ≤ 100000) : (orcω E X0).call 35 [.sl false (rs.map encRun)] = some (encPl (placesM rs)) := by
  refine call_of rfl fn35 rfl ?_
  have h1 := c23 false rs (by omega)
  by_cases hv : validate rs = 0
  · have ho := (valid_okay hv).1
    have h2 := c75 false rs (by omega)
    obtain ⟨j1, j2⟩ := joined_okay ho
    have j3 := joined_le rs
    have j4 := j1.2
    rw [hv] at h1
    have h3 := c73 (joinedL rs)
    have h4 := eseq_each false false (joinedL rs) (by omega)
    simp (maxSteps := 1000000) (implicitDefEqProofs := false) only [Try.ntmps35, Try.results35, efc35, h1, h2, h3, h4, bne_self_eq_false, ss, List.replicate, evOp, evPlain, evVal, evMem, St.eval, St.put, St.get, constV, List.set, lenV, sliceOf, arrayOf, fieldsOf, normOf, norm, firstRegion, look, maskFrom, evBin, evIndexS, evLoad, evVar, evStore, evFieldAddr, nameOf, St.alloc, St.drop, killL, kill, killAll, killObs, killOb, upd, cells?, part, retag, retagL, putIn, refFree, refFreeL, isNew, isNewL, Ty.isAgg, splice, idsL, ids, idsLL, reach, depth, St.dropL, resultsV, resultV, ↓reduceIte, Nat.reduceBEq, Nat.reduceAdd, Nat.reduceSub, Nat.reduceMul, Nat.reduceEqDiff, Nat.reduceLeDiff, Nat.reduceLT, effOf, effMem, effStore, effCall, effVar, effLit, effMake, effApp, Eff.ap, lend, evLit, evMake, evNil, freeze, onto, dropO, elemsV, sized, evCmp, eqT, eqG, minV, evUn, evField, evExtract, evIndexA, evIndexV, evSlice, optInt, fillV, placeOf, thawed, del, isNilSlice, plain, plainL, cellsJ, junkOk, St.with, setSlots, setObs, wantedD, seqOf, noRange, setAll, Array.size, te, einl, inls]
    simp only [placesM, if_pos hv]
    generalize joinedL rs = js at *
    generalize hr : popped (roundsIn _ _ _ _ _ _) = r; revert r
    refine rounds_runs js (fun pre _ => plOb (starts js pre.length)) (fun _ (_ : Unit) => True) () (by simp only [starts, List.length_nil, Nat.zero_sub, List.range_zero, List.map_nil, plOb]; simp (maxSteps := 1000000) (implicitDefEqProofs := false) only [ss, List.replicate, evOp, evPlain, evVal, evMem, St.eval, St.put, St.get, constV, List.set, lenV, sliceOf, arrayOf, fieldsOf, normOf, norm, firstRegion, look, maskFrom, evBin, evIndexS, evLoad, evVar, evStore, evFieldAddr, nameOf, St.alloc, St.drop, killL, kill, killAll, killObs, killOb, upd, cells?, part, retag, retagL, putIn, refFree, refFreeL, isNew, isNewL, Ty.isAgg, splice, idsL, ids, idsLL, reach, depth, St.dropL, resultsV, resultV, ↓reduceIte, Nat.reduceBEq, Nat.reduceAdd, Nat.reduceSub, Nat.reduceMul, Nat.reduceEqDiff, Nat.reduceLeDiff, Nat.reduceLT, effOf, effMem, effStore, effCall, effVar, effLit, effMake, effApp, Eff.ap, lend, evLit, evMake, evNil, freeze, onto, dropO, elemsV, sized, evCmp, eqT, eqG, minV, evUn, evField, evExtract, evIndexA, evIndexV, evSlice, optInt, fillV, placeOf, thawed, del, isNilSlice, plain, plainL, cellsJ, junkOk, St.with, setSlots, setObs, wantedD, seqOf, noRange, setAll, Array.size, te, einl, inls]) trivial (fun _ _ => ?_) (fun pre r post _ hp _ => ?_)
    · cases hc : starts js js.length with
      | nil => simp (maxSteps := 1000000) (implicitDefEqProofs := false) only [plOb, Try.ntmps35, Try.results35, efc35, ss, List.replicate, evOp, evPlain, evVal, evMem, St.eval, St.put, St.get, constV, List.set, lenV, sliceOf, arrayOf, fieldsOf, normOf, norm, firstRegion, look, maskFrom, evBin, evIndexS, evLoad, evVar, evStore, evFieldAddr, nameOf, St.alloc, St.drop, killL, kill, killAll, killObs, killOb, upd, cells?, part, retag, retagL, putIn, refFree, refFreeL, isNew, isNewL, Ty.isAgg, splice, idsL, ids, idsLL, reach, depth, St.dropL, resultsV, resultV, ↓reduceIte, Nat.reduceBEq, Nat.reduceAdd, Nat.reduceSub, Nat.reduceMul, Nat.reduceEqDiff, Nat.reduceLeDiff, Nat.reduceLT, effOf, effMem, effStore, effCall, effVar, effLit, effMake, effApp, Eff.ap, lend, evLit, evMake, evNil, freeze, onto, dropO, elemsV, sized, evCmp, eqT, eqG, minV, evUn, evField, evExtract, evIndexA, evIndexV, evSlice, optInt, fillV, placeOf, thawed, del, isNilSlice, plain, plainL, cellsJ, junkOk, St.with, setSlots, setObs, wantedD, seqOf, noRange, setAll, Array.size, te, einl, inls]; simp [encPl, hc]
      | cons x l => simp (maxSteps := 1000000) (implicitDefEqProofs := false) only [plOb, Try.ntmps35, Try.results35, efc35, ss, List.replicate, evOp, evPlain, evVal, evMem, St.eval, St.put, St.get, constV, List.set, lenV, sliceOf, arrayOf, fieldsOf, normOf, norm, firstRegion, look, maskFrom, evBin, evIndexS, evLoad, evVar, evStore, evFieldAddr, nameOf, St.alloc, St.drop, killL, kill, killAll, killObs, killOb, upd, cells?, part, retag, retagL, putIn, refFree, refFreeL, isNew, isNewL, Ty.isAgg, splice, idsL, ids, idsLL, reach, depth, St.dropL, resultsV, resultV, ↓reduceIte, Nat.reduceBEq, Nat.reduceAdd, Nat.reduceSub, Nat.reduceMul, Nat.reduceEqDiff, Nat.reduceLeDiff, Nat.reduceLT, effOf, effMem, effStore, effCall, effVar, effLit, effMake, effApp, Eff.ap, lend, evLit, evMake, evNil, freeze, onto, dropO, elemsV, sized, evCmp, eqT, eqG, minV, evUn, evField, evExtract, evIndexA, evIndexV, evSlice, optInt, fillV, placeOf, thawed, del, isNilSlice, plain, plainL, cellsJ, junkOk, St.with, setSlots, setObs, wantedD, seqOf, noRange, setAll, Array.size, te, einl, inls]; simp [encPl, hc]
    · have h5 := okay_app (hp ▸ j1)
      have h6 := ln_total h5.1
      have h7 := okay_nonneg h5.1
      have h8 : pre.length ≤ js.length := by rw [hp]; simp
      have h9 : total (js.take pre.length) = total pre := by rw [hp]; simp
      have hl := starts_len js pre.length
      have hpos : 0 < pre.length → 0 < total pre := fun h => by
        cases pre with
        | nil => simp at h
        | cons x l =>
          have := h5.1.1 x List.mem_cons_self
          have := okay_nonneg (okay_app (pre := [x]) (post := l) h5.1).2
          rw [total_cons]; omega
      rcases Nat.eq_zero_or_pos pre.length with hz | hz
      · have hpre : pre = [] := List.eq_nil_of_length_eq_zero hz
        subst hpre
        have e1 : starts js ([] : List Run).length = [] := rfl
        have e2 : starts js ([] ++ [r]).length = [] := rfl
        have a1 : ¬ (0 : Int) < total [] := by simp [total]
        rw [e1, e2]
        simp only [plOb]
        simp (maxSteps := 1000000) (implicitDefEqProofs := false) only [h6, a1, ss, List.replicate, evOp, evPlain, evVal, evMem, St.eval, St.put, St.get, constV, List.set, lenV, sliceOf, arrayOf, fieldsOf, normOf, norm, firstRegion, look, maskFrom, evBin, evIndexS, evLoad, evVar, evStore, evFieldAddr, nameOf, St.alloc, St.drop, killL, kill, killAll, killObs, killOb, upd, cells?, part, retag, retagL, putIn, refFree, refFreeL, isNew, isNewL, Ty.isAgg, splice, idsL, ids, idsLL, reach, depth, St.dropL, resultsV, resultV, ↓reduceIte, Nat.reduceBEq, Nat.reduceAdd, Nat.reduceSub, Nat.reduceMul, Nat.reduceEqDiff, Nat.reduceLeDiff, Nat.reduceLT, effOf, effMem, effStore, effCall, effVar, effLit, effMake, effApp, Eff.ap, lend, evLit, evMake, evNil, freeze, onto, dropO, elemsV, sized, evCmp, eqT, eqG, minV, evUn, evField, evExtract, evIndexA, evIndexV, evSlice, optInt, fillV, placeOf, thawed, del, isNilSlice, plain, plainL, cellsJ, junkOk, St.with, setSlots, setObs, wantedD, seqOf, noRange, setAll, Array.size, te, einl, inls]
        simp
      · have a1 := hpos hz
        have e2 : starts js (pre ++ [r]).length = starts js pre.length ++ [total pre] := by
          rw [List.length_append, List.length_cons, List.length_nil, starts_succ js hz, h9]
        rw [e2]
        generalize starts js pre.length = out at *
        have hroom1 : roomy 1 8 = true := by simp [roomy]
        have hroom : roomy (out.length + 1) 8 = true := by simp [roomy]; omega
        have hbig : out.length + 1 ≤ 4294967296 := by omega
        rcases List.eq_nil_or_concat out with hc | ⟨l', x', hc⟩
        · subst hc
          simp only [plOb]
          simp (maxSteps := 1000000) (implicitDefEqProofs := false) only [h6, a1, hroom1, ss, List.replicate, evOp, evPlain, evVal, evMem, St.eval, St.put, St.get, constV, List.set, lenV, sliceOf, arrayOf, fieldsOf, normOf, norm, firstRegion, look, maskFrom, evBin, evIndexS, evLoad, evVar, evStore, evFieldAddr, nameOf, St.alloc, St.drop, killL, kill, killAll, killObs, killOb, upd, cells?, part, retag, retagL, putIn, refFree, refFreeL, isNew, isNewL, Ty.isAgg, splice, idsL, ids, idsLL, reach, depth, St.dropL, resultsV, resultV, ↓reduceIte, Nat.reduceBEq, Nat.reduceAdd, Nat.reduceSub, Nat.reduceMul, Nat.reduceEqDiff, Nat.reduceLeDiff, Nat.reduceLT, effOf, effMem, effStore, effCall, effVar, effLit, effMake, effApp, Eff.ap, lend, evLit, evMake, evNil, freeze, onto, dropO, elemsV, sized, evCmp, eqT, eqG, minV, evUn, evField, evExtract, evIndexA, evIndexV, evSlice, optInt, fillV, placeOf, thawed, del, isNilSlice, plain, plainL, cellsJ, junkOk, St.with, setSlots, setObs, wantedD, seqOf, noRange, setAll, Array.size, te, einl, inls]
          simp [plOb, vI]
        · have hne : out ≠ [] := by rw [hc]; simp
          rw [plOb_ne hne, plOb_ne (by simp)]
          simp (maxSteps := 1000000) (implicitDefEqProofs := false) only [h6, a1, hroom, hbig, ss, List.replicate, evOp, evPlain, evVal, evMem, St.eval, St.put, St.get, constV, List.set, lenV, sliceOf, arrayOf, fieldsOf, normOf, norm, firstRegion, look, maskFrom, evBin, evIndexS, evLoad, evVar, evStore, evFieldAddr, nameOf, St.alloc, St.drop, killL, kill, killAll, killObs, killOb, upd, cells?, part, retag, retagL, putIn, refFree, refFreeL, isNew, isNewL, Ty.isAgg, splice, idsL, ids, idsLL, reach, depth, St.dropL, resultsV, resultV, ↓reduceIte, Nat.reduceBEq, Nat.reduceAdd, Nat.reduceSub, Nat.reduceMul, Nat.reduceEqDiff, Nat.reduceLeDiff, Nat.reduceLT, effOf, effMem, effStore, effCall, effVar, effLit, effMake, effApp, Eff.ap, lend, evLit, evMake, evNil, freeze, onto, dropO, elemsV, sized, evCmp, eqT, eqG, minV, evUn, evField, evExtract, evIndexA, evIndexV, evSlice, optInt, fillV, placeOf, thawed, del, isNilSlice, plain, plainL, cellsJ, junkOk, St.with, setSlots, setObs, wantedD, seqOf, noRange, setAll, Array.size, te, einl, inls]
          simp [vI]
  · have hv' : (validate rs != 0) = true := by simp [hv]
    simp (maxSteps := 1000000) (implicitDefEqProofs := false) only [Try.ntmps35, Try.results35, efc35, h1, hv', ss, List.replicate, evOp, evPlain, evVal, evMem, St.eval, St.put, St.get, constV, List.set, lenV, sliceOf, arrayOf, fieldsOf, normOf, norm, firstRegion, look, maskFrom, evBin, evIndexS, evLoad, evVar, evStore, evFieldAddr, nameOf, St.alloc, St.drop, killL, kill, killAll, killObs, killOb, upd, cells?, part, retag, retagL, putIn, refFree, refFreeL, isNew, isNewL, Ty.isAgg, splice, idsL, ids, idsLL, reach, depth, St.dropL, resultsV, resultV, ↓reduceIte, Nat.reduceBEq, Nat.reduceAdd, Nat.reduceSub, Nat.reduceMul, Nat.reduceEqDiff, Nat.reduceLeDiff, Nat.reduceLT, effOf, effMem, effStore, effCall, effVar, effLit, effMake, effApp, Eff.ap, lend, evLit, evMake, evNil, freeze, onto, dropO, elemsV, sized, evCmp, eqT, eqG, minV, evUn, evField, evExtract, evIndexA, evIndexV, evSlice, optInt, fillV, placeOf, thawed, del, isNilSlice, plain, plainL, cellsJ, junkOk, St.with, setSlots, setObs, wantedD, seqOf, noRange, setAll, Array.size, te, einl, inls]
    simp [encPl, placesM, hv]

theorem placesM_len (rs : List Run) : (placesM rs).1.length ≤ rs.length := by
  unfold placesM
  split
  · have := joined_le rs
    simp [starts_len]; omega
  · exact Nat.zero_le _

theorem okT6 : okCode (Try.f6.body.getD .skip) = true := by decide +kernel

theorem c6 (xs : List Run) (p : Int) : (orcω E X0).call 6 [.sl false (xs.map encRun), .int .i64 p] = some (.bool true) := by
  refine call_of rfl fn6 rfl ?_
  have hok := okT6
  simp only [Try.f6, Option.getD_some, okCode, Bool.and_eq_true, Bool.and_true, Bool.true_and] at hok
  have k1 := c16 false xs
  by_cases hx : (100 : Int) < xs.length
  · simp only [hx, decide_true] at k1
    simp (maxSteps := 1000000) (implicitDefEqProofs := false) only [Try.ntmps6, Try.results6, efc6, fc6, k1, c17, ss, List.replicate, evOp, evPlain, evVal, evMem, St.eval, St.put, St.get, constV, List.set, lenV, sliceOf, arrayOf, fieldsOf, normOf, norm, firstRegion, look, maskFrom, evBin, evIndexS, evLoad, evVar, evStore, evFieldAddr, nameOf, St.alloc, St.drop, killL, kill, killAll, killObs, killOb, upd, cells?, part, retag, retagL, putIn, refFree, refFreeL, isNew, isNewL, Ty.isAgg, splice, idsL, ids, idsLL, reach, depth, St.dropL, resultsV, resultV, ↓reduceIte, Nat.reduceBEq, Nat.reduceAdd, Nat.reduceSub, Nat.reduceMul, Nat.reduceEqDiff, Nat.reduceLeDiff, Nat.reduceLT, effOf, effMem, effStore, effCall, effVar, effLit, effMake, effApp, Eff.ap, lend, evLit, evMake, evNil, freeze, onto, dropO, elemsV, sized, evCmp, eqT, eqG, minV, evUn, evField, evExtract, evIndexA, evIndexV, evSlice, optInt, fillV, placeOf, thawed, del, isNilSlice, plain, plainL, cellsJ, junkOk, St.with, setSlots, setObs, wantedD, seqOf, noRange, setAll, Array.size, te, einl, inls]
  simp only [hx, decide_false] at k1
  have k3 := c33 xs p (by omega)
  have k4 := c34 xs p (by omega)
  have k5 := c35 xs (by omega)
  have k6 := c36 xs (by omega)
  have l1 := placesM_len xs
  generalize atM xs p = A at *
  generalize placesM xs = J at *
  obtain ⟨m, me⟩ := A
  obtain ⟨js, je⟩ := J
  dsimp only at l1
  simp only [encAt, encMk, encPl] at k3 k4 k5 k6
  simp (maxSteps := 1000000) (implicitDefEqProofs := false) only [Try.ntmps6, Try.results6, efc6, fc6, k1, k3, k4, k5, k6, bne_self_eq_false, ss, List.replicate, evOp, evPlain, evVal, evMem, St.eval, St.put, St.get, constV, List.set, lenV, sliceOf, arrayOf, fieldsOf, normOf, norm, firstRegion, look, maskFrom, evBin, evIndexS, evLoad, evVar, evStore, evFieldAddr, nameOf, St.alloc, St.drop, killL, kill, killAll, killObs, killOb, upd, cells?, part, retag, retagL, putIn, refFree, refFreeL, isNew, isNewL, Ty.isAgg, splice, idsL, ids, idsLL, reach, depth, St.dropL, resultsV, resultV, ↓reduceIte, Nat.reduceBEq, Nat.reduceAdd, Nat.reduceSub, Nat.reduceMul, Nat.reduceEqDiff, Nat.reduceLeDiff, Nat.reduceLT, effOf, effMem, effStore, effCall, effVar, effLit, effMake, effApp, Eff.ap, lend, evLit, evMake, evNil, freeze, onto, dropO, elemsV, sized, evCmp, eqT, eqG, minV, evUn, evField, evExtract, evIndexA, evIndexV, evSlice, optInt, fillV, placeOf, thawed, del, isNilSlice, plain, plainL, cellsJ, junkOk, St.with, setSlots, setObs, wantedD, seqOf, noRange, setAll, Array.size, te, einl, inls]
  generalize hr : loopAt _ _ _ _ _ _ = r; revert r
  refine loop_list js (fun pre _ => [(13, .int .i64 pre.length)]) (fun _ _ => []) (fun _ (_ : Unit) => True) () (by omega) (by simp (maxSteps := 1000000) (implicitDefEqProofs := false) only [ss, List.replicate, evOp, evPlain, evVal, evMem, St.eval, St.put, St.get, constV, List.set, lenV, sliceOf, arrayOf, fieldsOf, normOf, norm, firstRegion, look, maskFrom, evBin, evIndexS, evLoad, evVar, evStore, evFieldAddr, nameOf, St.alloc, St.drop, killL, kill, killAll, killObs, killOb, upd, cells?, part, retag, retagL, putIn, refFree, refFreeL, isNew, isNewL, Ty.isAgg, splice, idsL, ids, idsLL, reach, depth, St.dropL, resultsV, resultV, ↓reduceIte, Nat.reduceBEq, Nat.reduceAdd, Nat.reduceSub, Nat.reduceMul, Nat.reduceEqDiff, Nat.reduceLeDiff, Nat.reduceLT, effOf, effMem, effStore, effCall, effVar, effLit, effMake, effApp, Eff.ap, lend, evLit, evMake, evNil, freeze, onto, dropO, elemsV, sized, evCmp, eqT, eqG, minV, evUn, evField, evExtract, evIndexA, evIndexV, evSlice, optInt, fillV, placeOf, thawed, del, isNilSlice, plain, plainL, cellsJ, junkOk, St.with, setSlots, setObs, wantedD, seqOf, noRange, setAll, Array.size, te, einl, inls]) trivial (fun _ _ => ?_) (fun pre x post _ hp _ g1 g2 g3 g4 => ?_)
  · simp (maxSteps := 1000000) (implicitDefEqProofs := false) only [Int.lt_irrefl, Try.ntmps6, Try.results6, efc6, fc6, c17, ss, List.replicate, evOp, evPlain, evVal, evMem, St.eval, St.put, St.get, constV, List.set, lenV, sliceOf, arrayOf, fieldsOf, normOf, norm, firstRegion, look, maskFrom, evBin, evIndexS, evLoad, evVar, evStore, evFieldAddr, nameOf, St.alloc, St.drop, killL, kill, killAll, killObs, killOb, upd, cells?, part, retag, retagL, putIn, refFree, refFreeL, isNew, isNewL, Ty.isAgg, splice, idsL, ids, idsLL, reach, depth, St.dropL, resultsV, resultV, ↓reduceIte, Nat.reduceBEq, Nat.reduceAdd, Nat.reduceSub, Nat.reduceMul, Nat.reduceEqDiff, Nat.reduceLeDiff, Nat.reduceLT, effOf, effMem, effStore, effCall, effVar, effLit, effMake, effApp, Eff.ap, lend, evLit, evMake, evNil, freeze, onto, dropO, elemsV, sized, evCmp, eqT, eqG, minV, evUn, evField, evExtract, evIndexA, evIndexV, evSlice, optInt, fillV, placeOf, thawed, del, isNilSlice, plain, plainL, cellsJ, junkOk, St.with, setSlots, setObs, wantedD, seqOf, noRange, setAll, Array.size, te, einl, inls]
  · simp (maxSteps := 1000000) (implicitDefEqProofs := false) only [g1, g2, g3, g4, Int.natCast_nonneg, Int.toNat_natCast, List.getElem?_map, vI, hok, evRegion_st, bne_self_eq_false, ss, List.replicate, evOp, evPlain, evVal, evMem, St.eval, St.put, St.get, constV, List.set, lenV, sliceOf, arrayOf, fieldsOf, normOf, norm, firstRegion, look, maskFrom, evBin, evIndexS, evLoad, evVar, evStore, evFieldAddr, nameOf, St.alloc, St.drop, killL, kill, killAll, killObs, killOb, upd, cells?, part, retag, retagL, putIn, refFree, refFreeL, isNew, isNewL, Ty.isAgg, splice, idsL, ids, idsLL, reach, depth, St.dropL, resultsV, resultV, ↓reduceIte, Nat.reduceBEq, Nat.reduceAdd, Nat.reduceSub, Nat.reduceMul, Nat.reduceEqDiff, Nat.reduceLeDiff, Nat.reduceLT, effOf, effMem, effStore, effCall, effVar, effLit, effMake, effApp, Eff.ap, lend, evLit, evMake, evNil, freeze, onto, dropO, elemsV, sized, evCmp, eqT, eqG, minV, evUn, evField, evExtract, evIndexA, evIndexV, evSlice, optInt, fillV, placeOf, thawed, del, isNilSlice, plain, plainL, cellsJ, junkOk, St.with, setSlots, setObs, wantedD, seqOf, noRange, setAll, Array.size, te, einl, inls]
    exact ⟨(), trivial⟩

end Go.AM.A
end

section
namespace Go.AM.A
open Go Go.Proofs

theorem part_get {α : Type} {g : α → α} {ms pre : List α} {x : α} {post : List α} (hp : ms = pre ++ x :: post) : (pre.map g ++ ms.drop pre.length)[pre.length]? = some x := by
  subst hp
  rw [List.getElem?_append_right (by simp)]
  simp

theorem part_set {α : Type} {g : α → α} {ms pre : List α} {x : α} {post : List α} (hp : ms = pre ++ x :: post) : (pre.map g ++ ms.drop pre.length).set pre.length (g x) = (pre ++ [x]).map g ++ ms.drop (pre ++ [x]).length := by
  subst hp
  rw [List.set_append_right _ _ (by simp)]
  simp

def orI (x y : Int) : Int := bitsI .or .i64 x y
def flawF (fl : Int) (m : Mk) : Mk := { m with flaw := orI m.flaw fl }
def pressF (th : Int) (m : Mk) : Mk := { m with thick := min m.thick th }

theorem c84 (m : Mk) (fl : Int) (t : Bool) : (orcω E X0).call 84 [encMk m, .fp t [.int .i64 fl] 0] = some (encMk (flawF fl m)) := by
  refine call_of rfl fn84 rfl ?_
  simp (maxSteps := 1000000) (implicitDefEqProofs := false) only [Try.ntmps84, Try.results84, efc84, encMk, flawF, orI, ss, List.replicate, evOp, evPlain, evVal, evMem, St.eval, St.put, St.get, constV, List.set, lenV, sliceOf, arrayOf, fieldsOf, normOf, norm, firstRegion, look, maskFrom, evBin, evIndexS, evLoad, evVar, evStore, evFieldAddr, nameOf, St.alloc, St.drop, killL, kill, killAll, killObs, killOb, upd, cells?, part, retag, retagL, putIn, refFree, refFreeL, isNew, isNewL, Ty.isAgg, splice, idsL, ids, idsLL, reach, depth, St.dropL, resultsV, resultV, ↓reduceIte, Nat.reduceBEq, Nat.reduceAdd, Nat.reduceSub, Nat.reduceMul, Nat.reduceEqDiff, Nat.reduceLeDiff, Nat.reduceLT, effOf, effMem, effStore, effCall, effVar, effLit, effMake, effApp, Eff.ap, lend, evLit, evMake, evNil, freeze, onto, dropO, elemsV, sized, evCmp, eqT, eqG, minV, evUn, evField, evExtract, evIndexA, evIndexV, evSlice, optInt, fillV, placeOf, thawed, del, isNilSlice, plain, plainL, cellsJ, junkOk, St.with, setSlots, setObs, wantedD, seqOf, noRange, setAll, Array.size, te, einl, inls]

theorem c85 (m : Mk) (th : Int) (t : Bool) : (orcω E X0).call 85 [encMk m, .fp t [.int .i64 th] 0] = some (encMk (pressF th m)) := by
  refine call_of rfl fn85 rfl ?_
  simp (maxSteps := 1000000) (implicitDefEqProofs := false) only [Try.ntmps85, Try.results85, efc85, encMk, pressF, ss, List.replicate, evOp, evPlain, evVal, evMem, St.eval, St.put, St.get, constV, List.set, lenV, sliceOf, arrayOf, fieldsOf, normOf, norm, firstRegion, look, maskFrom, evBin, evIndexS, evLoad, evVar, evStore, evFieldAddr, nameOf, St.alloc, St.drop, killL, kill, killAll, killObs, killOb, upd, cells?, part, retag, retagL, putIn, refFree, refFreeL, isNew, isNewL, Ty.isAgg, splice, idsL, ids, idsLL, reach, depth, St.dropL, resultsV, resultV, ↓reduceIte, Nat.reduceBEq, Nat.reduceAdd, Nat.reduceSub, Nat.reduceMul, Nat.reduceEqDiff, Nat.reduceLeDiff, Nat.reduceLT, effOf, effMem, effStore, effCall, effVar, effLit, effMake, effApp, Eff.ap, lend, evLit, evMake, evNil, freeze, onto, dropO, elemsV, sized, evCmp, eqT, eqG, minV, evUn, evField, evExtract, evIndexA, evIndexV, evSlice, optInt, fillV, placeOf, thawed, del, isNilSlice, plain, plainL, cellsJ, junkOk, St.with, setSlots, setObs, wantedD, seqOf, noRange, setAll, Array.size, te, einl, inls]

def remark (f : Mk → Mk) (r : Run) : Run := runOf r.len (f r.mk')
def changedL (rs : List Run) (lo hi : Int) (f : Mk → Mk) : List Run := cutL 0 lo 0 rs ++ ((cutL lo hi 0 rs).map (remark f) ++ cutL hi (total rs) 0 rs)

theorem c83 (rs : List Run) (lo hi : Int) (ho : Okay rs) (hn : rs.length ≤ 100000) (h0 : 0 ≤ lo ∧ lo ≤ hi ∧ hi ≤ total rs) (g : Nat) (x : Int) (f : Mk → Mk) (hi' : (g == 26) = false)
    (hg : ∀ m, (orcω E X0).call g [encMk m, .fp false [.int .i64 x] 0] = some (encMk (f m))) :
    (orcω E X0).call 83 [.sl false (rs.map encRun), .int .i64 lo, .int .i64 hi, .clo g [] [.fp false [.int .i64 x] 0]] = some (.sl false ((changedL rs lo hi f).map encRun)) := by
  have htot := ho.2
  have hm : Mod lo ∧ Mod hi ∧ Mod 0 ∧ Mod (total rs) := by unfold Mod; omega
  have h1 := c70 rs lo hi ho (by omega) hm.1 hm.2.1
  have h2 := c70 rs 0 lo ho (by omega) hm.2.2.1 hm.1
  have h3 := c70 rs hi (total rs) ho (by omega) hm.2.1 hm.2.2.2
  have h4 := c61 false rs (by omega)
  rw [ln_total ho] at h4
  have l1 := cutL_len lo hi rs 0
  have l2 := cutL_len 0 lo rs 0
  have l3 := cutL_len hi (total rs) rs 0
  refine call_of rfl fn83 rfl ?_
  simp (maxSteps := 1000000) (implicitDefEqProofs := false) only [Try.ntmps83, Try.results83, efc83, fc83, h1, refFree_runs, plain_runs, sized_runs, ss, List.replicate, evOp, evPlain, evVal, evMem, St.eval, St.put, St.get, constV, List.set, lenV, sliceOf, arrayOf, fieldsOf, normOf, norm, firstRegion, look, maskFrom, evBin, evIndexS, evLoad, evVar, evStore, evFieldAddr, nameOf, St.alloc, St.drop, killL, kill, killAll, killObs, killOb, upd, cells?, part, retag, retagL, putIn, refFree, refFreeL, isNew, isNewL, Ty.isAgg, splice, idsL, ids, idsLL, reach, depth, St.dropL, resultsV, resultV, ↓reduceIte, Nat.reduceBEq, Nat.reduceAdd, Nat.reduceSub, Nat.reduceMul, Nat.reduceEqDiff, Nat.reduceLeDiff, Nat.reduceLT, effOf, effMem, effStore, effCall, effVar, effLit, effMake, effApp, Eff.ap, lend, evLit, evMake, evNil, freeze, onto, dropO, elemsV, sized, evCmp, eqT, eqG, minV, evUn, evField, evExtract, evIndexA, evIndexV, evSlice, optInt, fillV, placeOf, thawed, del, isNilSlice, plain, plainL, cellsJ, junkOk, St.with, setSlots, setObs, wantedD, seqOf, noRange, setAll, Array.size, te, einl, inls]
  simp only [changedL]
  generalize cutL lo hi 0 rs = ms at *
  generalize hr : loopAt _ _ _ _ _ _ = r; revert r
  refine loop_list ms (fun pre _ => [(17, .int .i64 pre.length)]) (fun pre _ => [(14, { es := 4, flat := true, t := true, app := false, elems := (pre.map (remark f) ++ ms.drop pre.length).map encRun })]) (fun _ (_ : Unit) => True) () (by omega)
    (by simp (maxSteps := 1000000) (implicitDefEqProofs := false) only [List.map_nil, List.drop_zero, ss, List.replicate, evOp, evPlain, evVal, evMem, St.eval, St.put, St.get, constV, List.set, lenV, sliceOf, arrayOf, fieldsOf, normOf, norm, firstRegion, look, maskFrom, evBin, evIndexS, evLoad, evVar, evStore, evFieldAddr, nameOf, St.alloc, St.drop, killL, kill, killAll, killObs, killOb, upd, cells?, part, retag, retagL, putIn, refFree, refFreeL, isNew, isNewL, Ty.isAgg, splice, idsL, ids, idsLL, reach, depth, St.dropL, resultsV, resultV, ↓reduceIte, Nat.reduceBEq, Nat.reduceAdd, Nat.reduceSub, Nat.reduceMul, Nat.reduceEqDiff, Nat.reduceLeDiff, Nat.reduceLT, effOf, effMem, effStore, effCall, effVar, effLit, effMake, effApp, Eff.ap, lend, evLit, evMake, evNil, freeze, onto, dropO, elemsV, sized, evCmp, eqT, eqG, minV, evUn, evField, evExtract, evIndexA, evIndexV, evSlice, optInt, fillV, placeOf, thawed, del, isNilSlice, plain, plainL, cellsJ, junkOk, St.with, setSlots, setObs, wantedD, seqOf, noRange, setAll, Array.size, te, einl, inls]) trivial (fun _ _ => ?_) (fun pre r post _ hp _ g1 g2 g3 g4 => ?_)
  · have h5 := c66 [(true, cutL 0 lo 0 rs), (true, ms.map (remark f)), (true, cutL hi (total rs) 0 rs)] (by simp) (by simp; omega)
    simp only [List.map_cons, List.map_nil, encSl, List.flatMap_cons, List.flatMap_nil, List.append_nil, List.isEmpty_cons] at h5
    have e1 : (ms.map (remark f) ++ ms.drop ms.length) = ms.map (remark f) := by simp
    have e2 : ((ms.map (remark f)).map encRun).take ms.length = (ms.map (remark f)).map encRun := List.take_of_length_le (by simp)
    rw [e1]
    simp (maxSteps := 1000000) (implicitDefEqProofs := false) only [Int.lt_irrefl, h2, h3, h4, h5, e2, refFree_runs, Try.ntmps83, Try.results83, efc83, fc83, ss, List.replicate, evOp, evPlain, evVal, evMem, St.eval, St.put, St.get, constV, List.set, lenV, sliceOf, arrayOf, fieldsOf, normOf, norm, firstRegion, look, maskFrom, evBin, evIndexS, evLoad, evVar, evStore, evFieldAddr, nameOf, St.alloc, St.drop, killL, kill, killAll, killObs, killOb, upd, cells?, part, retag, retagL, putIn, refFree, refFreeL, isNew, isNewL, Ty.isAgg, splice, idsL, ids, idsLL, reach, depth, St.dropL, resultsV, resultV, ↓reduceIte, Nat.reduceBEq, Nat.reduceAdd, Nat.reduceSub, Nat.reduceMul, Nat.reduceEqDiff, Nat.reduceLeDiff, Nat.reduceLT, effOf, effMem, effStore, effCall, effVar, effLit, effMake, effApp, Eff.ap, lend, evLit, evMake, evNil, freeze, onto, dropO, elemsV, sized, evCmp, eqT, eqG, minV, evUn, evField, evExtract, evIndexA, evIndexV, evSlice, optInt, fillV, placeOf, thawed, del, isNilSlice, plain, plainL, cellsJ, junkOk, St.with, setSlots, setObs, wantedD, seqOf, noRange, setAll, Array.size, te, einl, inls]
  · have e1 := part_get (g := remark f) hp
    have e2 := part_set (g := remark f) hp
    generalize hl : pre.map (remark f) ++ ms.drop pre.length = cur at *
    have hcl : cur.length = ms.length := by rw [← hl, hp]; simp
    have hg' := hg r.mk'
    simp only [encMk, Run.mk'] at hg'
    simp (maxSteps := 1000000) (implicitDefEqProofs := false) only [g1, g2, e1, Int.natCast_nonneg, Int.toNat_natCast, List.getElem?_map, encRun, hi', hg', ss, List.replicate, evOp, evPlain, evVal, evMem, St.eval, St.put, St.get, constV, List.set, lenV, sliceOf, arrayOf, fieldsOf, normOf, norm, firstRegion, look, maskFrom, evBin, evIndexS, evLoad, evVar, evStore, evFieldAddr, nameOf, St.alloc, St.drop, killL, kill, killAll, killObs, killOb, upd, cells?, part, retag, retagL, putIn, refFree, refFreeL, isNew, isNewL, Ty.isAgg, splice, idsL, ids, idsLL, reach, depth, St.dropL, resultsV, resultV, ↓reduceIte, Nat.reduceBEq, Nat.reduceAdd, Nat.reduceSub, Nat.reduceMul, Nat.reduceEqDiff, Nat.reduceLeDiff, Nat.reduceLT, effOf, effMem, effStore, effCall, effVar, effLit, effMake, effApp, Eff.ap, lend, evLit, evMake, evNil, freeze, onto, dropO, elemsV, sized, evCmp, eqT, eqG, minV, evUn, evField, evExtract, evIndexA, evIndexV, evSlice, optInt, fillV, placeOf, thawed, del, isNilSlice, plain, plainL, cellsJ, junkOk, St.with, setSlots, setObs, wantedD, seqOf, noRange, setAll, Array.size, te, einl, inls]
    (first | exact ⟨(), trivial⟩ | refine ⟨(), ?_, trivial⟩ | skip)
    rw [g4, ← e2]
    simp [List.map_set, encRun, remark, runOf, Run.mk']

theorem lens_changed {rs : List Run} {lo hi : Int} {f : Mk → Mk} : ∀ r ∈ changedL rs lo hi f, 1 ≤ r.len := fun r h => by
  simp only [changedL, List.mem_append] at h
  rcases h with h | h | h
  · exact lens_cut rs 0 r h
  · obtain ⟨q, hq, rfl⟩ := List.mem_map.1 h
    exact lens_cut rs 0 q hq
  · exact lens_cut rs 0 r h

theorem changed_le (rs : List Run) (lo hi : Int) (f : Mk → Mk) : (changedL rs lo hi f).length ≤ 3 * rs.length := by
  have l1 := cutL_len lo hi rs 0
  have l2 := cutL_len 0 lo rs 0
  have l3 := cutL_len hi (total rs) rs 0
  simp only [changedL, List.length_append, List.length_map]
  omega

def changeM (rs : List Run) (lo hi : Int) (ok : Bool) (f : Mk → Mk) : List Run × Int :=
  if validate rs = 0 then (if spanM rs lo hi = true ∧ ok = true then finished (joinedL (changedL rs lo hi f)) else ([], 1)) else ([], validate rs)

theorem c52 (rs : List Run) (lo hi x : Int) (hn : rs.length ≤ 100000) : (orcω E X0).call 52 [.sl false (rs.map encRun), .int .i64 lo, .int .i64 hi, .int .i64 x] = some (encRes (changeM rs lo hi (inB x 0 15) (flawF x))) := by
  refine call_of rfl fn52 rfl ?_
  have h1 := c23 false rs (by omega)
  by_cases hv : validate rs = 0
  · have ho := (valid_okay hv).1
    rw [hv] at h1
    have h2 := c69 rs lo hi (by omega)
    have h3 := c63 x 0 15
    cases hs : spanM rs lo hi with
    | false =>
      rw [hs] at h2
      simp (maxSteps := 1000000) (implicitDefEqProofs := false) only [Try.ntmps52, Try.results52, efc52, h1, h2, bne_self_eq_false, ss, List.replicate, evOp, evPlain, evVal, evMem, St.eval, St.put, St.get, constV, List.set, lenV, sliceOf, arrayOf, fieldsOf, normOf, norm, firstRegion, look, maskFrom, evBin, evIndexS, evLoad, evVar, evStore, evFieldAddr, nameOf, St.alloc, St.drop, killL, kill, killAll, killObs, killOb, upd, cells?, part, retag, retagL, putIn, refFree, refFreeL, isNew, isNewL, Ty.isAgg, splice, idsL, ids, idsLL, reach, depth, St.dropL, resultsV, resultV, ↓reduceIte, Nat.reduceBEq, Nat.reduceAdd, Nat.reduceSub, Nat.reduceMul, Nat.reduceEqDiff, Nat.reduceLeDiff, Nat.reduceLT, effOf, effMem, effStore, effCall, effVar, effLit, effMake, effApp, Eff.ap, lend, evLit, evMake, evNil, freeze, onto, dropO, elemsV, sized, evCmp, eqT, eqG, minV, evUn, evField, evExtract, evIndexA, evIndexV, evSlice, optInt, fillV, placeOf, thawed, del, isNilSlice, plain, plainL, cellsJ, junkOk, St.with, setSlots, setObs, wantedD, seqOf, noRange, setAll, Array.size, te, einl, inls]
      simp [encRes, changeM, hv, hs]
    | true =>
      rw [hs] at h2
      cases hb : inB x 0 15 with
      | false =>
        rw [hb] at h3
        simp (maxSteps := 1000000) (implicitDefEqProofs := false) only [Try.ntmps52, Try.results52, efc52, h1, h2, h3, bne_self_eq_false, ss, List.replicate, evOp, evPlain, evVal, evMem, St.eval, St.put, St.get, constV, List.set, lenV, sliceOf, arrayOf, fieldsOf, normOf, norm, firstRegion, look, maskFrom, evBin, evIndexS, evLoad, evVar, evStore, evFieldAddr, nameOf, St.alloc, St.drop, killL, kill, killAll, killObs, killOb, upd, cells?, part, retag, retagL, putIn, refFree, refFreeL, isNew, isNewL, Ty.isAgg, splice, idsL, ids, idsLL, reach, depth, St.dropL, resultsV, resultV, ↓reduceIte, Nat.reduceBEq, Nat.reduceAdd, Nat.reduceSub, Nat.reduceMul, Nat.reduceEqDiff, Nat.reduceLeDiff, Nat.reduceLT, effOf, effMem, effStore, effCall, effVar, effLit, effMake, effApp, Eff.ap, lend, evLit, evMake, evNil, freeze, onto, dropO, elemsV, sized, evCmp, eqT, eqG, minV, evUn, evField, evExtract, evIndexA, evIndexV, evSlice, optInt, fillV, placeOf, thawed, del, isNilSlice, plain, plainL, cellsJ, junkOk, St.with, setSlots, setObs, wantedD, seqOf, noRange, setAll, Array.size, te, einl, inls]
        simp [encRes, changeM, hv, hs]
      | true =>
        rw [hb] at h3
        obtain ⟨h5, _, _⟩ := span_mod hv hs
        have h6 := c83 rs lo hi ho hn h5 84 x (flawF x) rfl (fun m => c84 m x false)
        have h7 := changed_le rs lo hi (flawF x)
        have h8 := c59 false (changedL rs lo hi (flawF x)) (by omega)
        simp only [encRes] at h8
        simp (maxSteps := 1000000) (implicitDefEqProofs := false) only [Try.ntmps52, Try.results52, efc52, h1, h2, h3, h6, h8, bne_self_eq_false, ss, List.replicate, evOp, evPlain, evVal, evMem, St.eval, St.put, St.get, constV, List.set, lenV, sliceOf, arrayOf, fieldsOf, normOf, norm, firstRegion, look, maskFrom, evBin, evIndexS, evLoad, evVar, evStore, evFieldAddr, nameOf, St.alloc, St.drop, killL, kill, killAll, killObs, killOb, upd, cells?, part, retag, retagL, putIn, refFree, refFreeL, isNew, isNewL, Ty.isAgg, splice, idsL, ids, idsLL, reach, depth, St.dropL, resultsV, resultV, ↓reduceIte, Nat.reduceBEq, Nat.reduceAdd, Nat.reduceSub, Nat.reduceMul, Nat.reduceEqDiff, Nat.reduceLeDiff, Nat.reduceLT, effOf, effMem, effStore, effCall, effVar, effLit, effMake, effApp, Eff.ap, lend, evLit, evMake, evNil, freeze, onto, dropO, elemsV, sized, evCmp, eqT, eqG, minV, evUn, evField, evExtract, evIndexA, evIndexV, evSlice, optInt, fillV, placeOf, thawed, del, isNilSlice, plain, plainL, cellsJ, junkOk, St.with, setSlots, setObs, wantedD, seqOf, noRange, setAll, Array.size, te, einl, inls]
        simp [encRes, changeM, hv, hs]
  · have hv' : (validate rs != 0) = true := by simp [hv]
    simp (maxSteps := 1000000) (implicitDefEqProofs := false) only [Try.ntmps52, Try.results52, efc52, h1, hv', ss, List.replicate, evOp, evPlain, evVal, evMem, St.eval, St.put, St.get, constV, List.set, lenV, sliceOf, arrayOf, fieldsOf, normOf, norm, firstRegion, look, maskFrom, evBin, evIndexS, evLoad, evVar, evStore, evFieldAddr, nameOf, St.alloc, St.drop, killL, kill, killAll, killObs, killOb, upd, cells?, part, retag, retagL, putIn, refFree, refFreeL, isNew, isNewL, Ty.isAgg, splice, idsL, ids, idsLL, reach, depth, St.dropL, resultsV, resultV, ↓reduceIte, Nat.reduceBEq, Nat.reduceAdd, Nat.reduceSub, Nat.reduceMul, Nat.reduceEqDiff, Nat.reduceLeDiff, Nat.reduceLT, effOf, effMem, effStore, effCall, effVar, effLit, effMake, effApp, Eff.ap, lend, evLit, evMake, evNil, freeze, onto, dropO, elemsV, sized, evCmp, eqT, eqG, minV, evUn, evField, evExtract, evIndexA, evIndexV, evSlice, optInt, fillV, placeOf, thawed, del, isNilSlice, plain, plainL, cellsJ, junkOk, St.with, setSlots, setObs, wantedD, seqOf, noRange, setAll, Array.size, te, einl, inls]
    simp [encRes, changeM, hv]

theorem c54 (rs : List Run) (lo hi x : Int) (hn : rs.length ≤ 100000) : (orcω E X0).call 54 [.sl false (rs.map encRun), .int .i64 lo, .int .i64 hi, .int .i64 x] = some (encRes (changeM rs lo hi (inB x 1 1000) (pressF x))) := by
  refine call_of rfl fn54 rfl ?_
  have h1 := c23 false rs (by omega)
  by_cases hv : validate rs = 0
  · have ho := (valid_okay hv).1
    rw [hv] at h1
    have h2 := c69 rs lo hi (by omega)
    have h3 := c63 x 1 1000
    cases hs : spanM rs lo hi with
    | false =>
      rw [hs] at h2
      simp (maxSteps := 1000000) (implicitDefEqProofs := false) only [Try.ntmps54, Try.results54, efc54, h1, h2, bne_self_eq_false, ss, List.replicate, evOp, evPlain, evVal, evMem, St.eval, St.put, St.get, constV, List.set, lenV, sliceOf, arrayOf, fieldsOf, normOf, norm, firstRegion, look, maskFrom, evBin, evIndexS, evLoad, evVar, evStore, evFieldAddr, nameOf, St.alloc, St.drop, killL, kill, killAll, killObs, killOb, upd, cells?, part, retag, retagL, putIn, refFree, refFreeL, isNew, isNewL, Ty.isAgg, splice, idsL, ids, idsLL, reach, depth, St.dropL, resultsV, resultV, ↓reduceIte, Nat.reduceBEq, Nat.reduceAdd, Nat.reduceSub, Nat.reduceMul, Nat.reduceEqDiff, Nat.reduceLeDiff, Nat.reduceLT, effOf, effMem, effStore, effCall, effVar, effLit, effMake, effApp, Eff.ap, lend, evLit, evMake, evNil, freeze, onto, dropO, elemsV, sized, evCmp, eqT, eqG, minV, evUn, evField, evExtract, evIndexA, evIndexV, evSlice, optInt, fillV, placeOf, thawed, del, isNilSlice, plain, plainL, cellsJ, junkOk, St.with, setSlots, setObs, wantedD, seqOf, noRange, setAll, Array.size, te, einl, inls]
      simp [encRes, changeM, hv, hs]
    | true =>
      rw [hs] at h2
      cases hb : inB x 1 1000 with
      | false =>
        rw [hb] at h3
        simp (maxSteps := 1000000) (implicitDefEqProofs := false) only [Try.ntmps54, Try.results54, efc54, h1, h2, h3, bne_self_eq_false, ss, List.replicate, evOp, evPlain, evVal, evMem, St.eval, St.put, St.get, constV, List.set, lenV, sliceOf, arrayOf, fieldsOf, normOf, norm, firstRegion, look, maskFrom, evBin, evIndexS, evLoad, evVar, evStore, evFieldAddr, nameOf, St.alloc, St.drop, killL, kill, killAll, killObs, killOb, upd, cells?, part, retag, retagL, putIn, refFree, refFreeL, isNew, isNewL, Ty.isAgg, splice, idsL, ids, idsLL, reach, depth, St.dropL, resultsV, resultV, ↓reduceIte, Nat.reduceBEq, Nat.reduceAdd, Nat.reduceSub, Nat.reduceMul, Nat.reduceEqDiff, Nat.reduceLeDiff, Nat.reduceLT, effOf, effMem, effStore, effCall, effVar, effLit, effMake, effApp, Eff.ap, lend, evLit, evMake, evNil, freeze, onto, dropO, elemsV, sized, evCmp, eqT, eqG, minV, evUn, evField, evExtract, evIndexA, evIndexV, evSlice, optInt, fillV, placeOf, thawed, del, isNilSlice, plain, plainL, cellsJ, junkOk, St.with, setSlots, setObs, wantedD, seqOf, noRange, setAll, Array.size, te, einl, inls]
        simp [encRes, changeM, hv, hs]
      | true =>
        rw [hb] at h3
        obtain ⟨h5, _, _⟩ := span_mod hv hs
        have h6 := c83 rs lo hi ho hn h5 85 x (pressF x) rfl (fun m => c85 m x false)
        have h7 := changed_le rs lo hi (pressF x)
        have h8 := c59 false (changedL rs lo hi (pressF x)) (by omega)
        simp only [encRes] at h8
        simp (maxSteps := 1000000) (implicitDefEqProofs := false) only [Try.ntmps54, Try.results54, efc54, h1, h2, h3, h6, h8, bne_self_eq_false, ss, List.replicate, evOp, evPlain, evVal, evMem, St.eval, St.put, St.get, constV, List.set, lenV, sliceOf, arrayOf, fieldsOf, normOf, norm, firstRegion, look, maskFrom, evBin, evIndexS, evLoad, evVar, evStore, evFieldAddr, nameOf, St.alloc, St.drop, killL, kill, killAll, killObs, killOb, upd, cells?, part, retag, retagL, putIn, refFree, refFreeL, isNew, isNewL, Ty.isAgg, splice, idsL, ids, idsLL, reach, depth, St.dropL, resultsV, resultV, ↓reduceIte, Nat.reduceBEq, Nat.reduceAdd, Nat.reduceSub, Nat.reduceMul, Nat.reduceEqDiff, Nat.reduceLeDiff, Nat.reduceLT, effOf, effMem, effStore, effCall, effVar, effLit, effMake, effApp, Eff.ap, lend, evLit, evMake, evNil, freeze, onto, dropO, elemsV, sized, evCmp, eqT, eqG, minV, evUn, evField, evExtract, evIndexA, evIndexV, evSlice, optInt, fillV, placeOf, thawed, del, isNilSlice, plain, plainL, cellsJ, junkOk, St.with, setSlots, setObs, wantedD, seqOf, noRange, setAll, Array.size, te, einl, inls]
        simp [encRes, changeM, hv, hs]
  · have hv' : (validate rs != 0) = true := by simp [hv]
    simp (maxSteps := 1000000) (implicitDefEqProofs := false) only [Try.ntmps54, Try.results54, efc54, h1, hv', ss, List.replicate, evOp, evPlain, evVal, evMem, St.eval, St.put, St.get, constV, List.set, lenV, sliceOf, arrayOf, fieldsOf, normOf, norm, firstRegion, look, maskFrom, evBin, evIndexS, evLoad, evVar, evStore, evFieldAddr, nameOf, St.alloc, St.drop, killL, kill, killAll, killObs, killOb, upd, cells?, part, retag, retagL, putIn, refFree, refFreeL, isNew, isNewL, Ty.isAgg, splice, idsL, ids, idsLL, reach, depth, St.dropL, resultsV, resultV, ↓reduceIte, Nat.reduceBEq, Nat.reduceAdd, Nat.reduceSub, Nat.reduceMul, Nat.reduceEqDiff, Nat.reduceLeDiff, Nat.reduceLT, effOf, effMem, effStore, effCall, effVar, effLit, effMake, effApp, Eff.ap, lend, evLit, evMake, evNil, freeze, onto, dropO, elemsV, sized, evCmp, eqT, eqG, minV, evUn, evField, evExtract, evIndexA, evIndexV, evSlice, optInt, fillV, placeOf, thawed, del, isNilSlice, plain, plainL, cellsJ, junkOk, St.with, setSlots, setObs, wantedD, seqOf, noRange, setAll, Array.size, te, einl, inls]
    simp [encRes, changeM, hv]

/-- Its middle is given. -/
def aroundL (rs : List Run) (lo hi : Int) (ms : List Run) : List Run := cutL 0 lo 0 rs ++ (ms ++ cutL hi (total rs) 0 rs)

theorem c79 (rs ms : List Run) (lo hi : Int) (ho : Okay rs) (hn : rs.length ≤ 100000) (hm : ms.length ≤ 100000) (h0 : 0 ≤ lo ∧ lo ≤ hi ∧ hi ≤ total rs) (hp : ∀ r ∈ ms, r.len ≠ 0) :
    (orcω E X0).call 79 [.sl false (rs.map encRun), .int .i64 lo, .int .i64 hi, .sl false (ms.map encRun)] = some (encRes (finished (joinedL (aroundL rs lo hi ms)))) := by
  have htot := ho.2
  have hm : Mod lo ∧ Mod hi ∧ Mod 0 ∧ Mod (total rs) := by unfold Mod; omega
  have h2 := c72 rs 0 lo ho (by omega) hm.2.2.1 hm.1
  have h3 := c72 rs hi (total rs) ho (by omega) hm.2.1 hm.2.2.2
  have h4 := c62 false rs (by omega)
  rw [ln_total ho] at h4
  have l2 := cutL_len 0 lo rs 0
  have l3 := cutL_len hi (total rs) rs 0
  have h5 := c68 (cutL 0 lo 0 rs) ms (by omega) (by omega)
  have h6 := c68 (cutL 0 lo 0 rs ++ ms) (cutL hi (total rs) 0 rs) (by simp; omega) (by omega)
  have h7 := c60 false (aroundL rs lo hi ms) (by simp [aroundL]; omega)
  rw [joinR_eq (fun r hr => by
    simp only [aroundL, List.mem_append] at hr
    rcases hr with hr | hr | hr
    · have := lens_cut rs 0 r hr; omega
    · exact hp r hr
    · have := lens_cut rs 0 r hr; omega)] at h7
  rw [List.append_assoc] at h6
  change _ = some (V.sl false ((aroundL rs lo hi ms).map encRun)) at h6
  simp only [encRes] at h7 ⊢
  refine call_of rfl fn79 rfl ?_
  simp (maxSteps := 1000000) (implicitDefEqProofs := false) only [Try.ntmps79, Try.results79, efc79, h2, h3, h4, h5, h6, h7, ss, List.replicate, evOp, evPlain, evVal, evMem, St.eval, St.put, St.get, constV, List.set, lenV, sliceOf, arrayOf, fieldsOf, normOf, norm, firstRegion, look, maskFrom, evBin, evIndexS, evLoad, evVar, evStore, evFieldAddr, nameOf, St.alloc, St.drop, killL, kill, killAll, killObs, killOb, upd, cells?, part, retag, retagL, putIn, refFree, refFreeL, isNew, isNewL, Ty.isAgg, splice, idsL, ids, idsLL, reach, depth, St.dropL, resultsV, resultV, ↓reduceIte, Nat.reduceBEq, Nat.reduceAdd, Nat.reduceSub, Nat.reduceMul, Nat.reduceEqDiff, Nat.reduceLeDiff, Nat.reduceLT, effOf, effMem, effStore, effCall, effVar, effLit, effMake, effApp, Eff.ap, lend, evLit, evMake, evNil, freeze, onto, dropO, elemsV, sized, evCmp, eqT, eqG, minV, evUn, evField, evExtract, evIndexA, evIndexV, evSlice, optInt, fillV, placeOf, thawed, del, isNilSlice, plain, plainL, cellsJ, junkOk, St.with, setSlots, setObs, wantedD, seqOf, noRange, setAll, Array.size, te, einl, inls]

theorem c53 (rs : List Run) (lo hi x : Int) (hn : rs.length ≤ 100000) : (orcω E X0).call 53 [.sl false (rs.map encRun), .int .i64 lo, .int .i64 hi, .int .i64 x] = some (encRes (changeM rs lo hi (inB x 0 15) (flawF x))) := by
  refine call_of rfl fn53 rfl ?_
  have h1 := c24 false rs (by omega)
  by_cases hv : validate rs = 0
  · have ho := (valid_okay hv).1
    rw [hv] at h1
    have h2 := c71 rs lo hi (by omega)
    have h3 := c64 x 0 15
    cases hs : spanM rs lo hi with
    | false =>
      rw [hs] at h2
      simp (maxSteps := 1000000) (implicitDefEqProofs := false) only [Try.ntmps53, Try.results53, efc53, fc53, h1, h2, bne_self_eq_false, ss, List.replicate, evOp, evPlain, evVal, evMem, St.eval, St.put, St.get, constV, List.set, lenV, sliceOf, arrayOf, fieldsOf, normOf, norm, firstRegion, look, maskFrom, evBin, evIndexS, evLoad, evVar, evStore, evFieldAddr, nameOf, St.alloc, St.drop, killL, kill, killAll, killObs, killOb, upd, cells?, part, retag, retagL, putIn, refFree, refFreeL, isNew, isNewL, Ty.isAgg, splice, idsL, ids, idsLL, reach, depth, St.dropL, resultsV, resultV, ↓reduceIte, Nat.reduceBEq, Nat.reduceAdd, Nat.reduceSub, Nat.reduceMul, Nat.reduceEqDiff, Nat.reduceLeDiff, Nat.reduceLT, effOf, effMem, effStore, effCall, effVar, effLit, effMake, effApp, Eff.ap, lend, evLit, evMake, evNil, freeze, onto, dropO, elemsV, sized, evCmp, eqT, eqG, minV, evUn, evField, evExtract, evIndexA, evIndexV, evSlice, optInt, fillV, placeOf, thawed, del, isNilSlice, plain, plainL, cellsJ, junkOk, St.with, setSlots, setObs, wantedD, seqOf, noRange, setAll, Array.size, te, einl, inls]
      simp [encRes, changeM, hv, hs]
    | true =>
      rw [hs] at h2
      cases hb : inB x 0 15 with
      | false =>
        rw [hb] at h3
        simp (maxSteps := 1000000) (implicitDefEqProofs := false) only [Try.ntmps53, Try.results53, efc53, fc53, h1, h2, h3, bne_self_eq_false, ss, List.replicate, evOp, evPlain, evVal, evMem, St.eval, St.put, St.get, constV, List.set, lenV, sliceOf, arrayOf, fieldsOf, normOf, norm, firstRegion, look, maskFrom, evBin, evIndexS, evLoad, evVar, evStore, evFieldAddr, nameOf, St.alloc, St.drop, killL, kill, killAll, killObs, killOb, upd, cells?, part, retag, retagL, putIn, refFree, refFreeL, isNew, isNewL, Ty.isAgg, splice, idsL, ids, idsLL, reach, depth, St.dropL, resultsV, resultV, ↓reduceIte, Nat.reduceBEq, Nat.reduceAdd, Nat.reduceSub, Nat.reduceMul, Nat.reduceEqDiff, Nat.reduceLeDiff, Nat.reduceLT, effOf, effMem, effStore, effCall, effVar, effLit, effMake, effApp, Eff.ap, lend, evLit, evMake, evNil, freeze, onto, dropO, elemsV, sized, evCmp, eqT, eqG, minV, evUn, evField, evExtract, evIndexA, evIndexV, evSlice, optInt, fillV, placeOf, thawed, del, isNilSlice, plain, plainL, cellsJ, junkOk, St.with, setSlots, setObs, wantedD, seqOf, noRange, setAll, Array.size, te, einl, inls]
        simp [encRes, changeM, hv, hs]
      | true =>
        rw [hb] at h3
        obtain ⟨h5, m1, m2⟩ := span_mod hv hs
        have l1 := cutL_len lo hi rs 0
        have h4 := c72 rs lo hi ho (by omega) m1 m2
        have h7 := c79 rs ((cutL lo hi 0 rs).map (remark (flawF x))) lo hi ho hn (by simp; omega) h5 (fun r hr => by
          obtain ⟨q, hq, rfl⟩ := List.mem_map.1 hr
          have := lens_cut rs 0 q hq
          simp only [remark, runOf]; omega)
        rw [show aroundL rs lo hi ((cutL lo hi 0 rs).map (remark (flawF x))) = changedL rs lo hi (flawF x) from rfl] at h7
        simp only [changeM, hv, hs, if_true, and_self]
        simp (maxSteps := 1000000) (implicitDefEqProofs := false) only [Try.ntmps53, Try.results53, efc53, fc53, h1, h2, h3, h4, bne_self_eq_false, refFree_runs, plain_runs, sized_runs, ss, List.replicate, evOp, evPlain, evVal, evMem, St.eval, St.put, St.get, constV, List.set, lenV, sliceOf, arrayOf, fieldsOf, normOf, norm, firstRegion, look, maskFrom, evBin, evIndexS, evLoad, evVar, evStore, evFieldAddr, nameOf, St.alloc, St.drop, killL, kill, killAll, killObs, killOb, upd, cells?, part, retag, retagL, putIn, refFree, refFreeL, isNew, isNewL, Ty.isAgg, splice, idsL, ids, idsLL, reach, depth, St.dropL, resultsV, resultV, ↓reduceIte, Nat.reduceBEq, Nat.reduceAdd, Nat.reduceSub, Nat.reduceMul, Nat.reduceEqDiff, Nat.reduceLeDiff, Nat.reduceLT, effOf, effMem, effStore, effCall, effVar, effLit, effMake, effApp, Eff.ap, lend, evLit, evMake, evNil, freeze, onto, dropO, elemsV, sized, evCmp, eqT, eqG, minV, evUn, evField, evExtract, evIndexA, evIndexV, evSlice, optInt, fillV, placeOf, thawed, del, isNilSlice, plain, plainL, cellsJ, junkOk, St.with, setSlots, setObs, wantedD, seqOf, noRange, setAll, Array.size, te, einl, inls]
        generalize cutL lo hi 0 rs = ms at *
        generalize hr : loopAt _ _ _ _ _ _ = r; revert r
        refine loop_list ms (fun pre _ => [(12, .int .i64 pre.length)]) (fun pre _ => [(31, { es := 4, flat := true, t := true, app := false, elems := (pre.map (remark (flawF x)) ++ ms.drop pre.length).map encRun })]) (fun _ (_ : Unit) => True) () (by omega)
          (by simp (maxSteps := 1000000) (implicitDefEqProofs := false) only [List.map_nil, List.drop_zero, ss, List.replicate, evOp, evPlain, evVal, evMem, St.eval, St.put, St.get, constV, List.set, lenV, sliceOf, arrayOf, fieldsOf, normOf, norm, firstRegion, look, maskFrom, evBin, evIndexS, evLoad, evVar, evStore, evFieldAddr, nameOf, St.alloc, St.drop, killL, kill, killAll, killObs, killOb, upd, cells?, part, retag, retagL, putIn, refFree, refFreeL, isNew, isNewL, Ty.isAgg, splice, idsL, ids, idsLL, reach, depth, St.dropL, resultsV, resultV, ↓reduceIte, Nat.reduceBEq, Nat.reduceAdd, Nat.reduceSub, Nat.reduceMul, Nat.reduceEqDiff, Nat.reduceLeDiff, Nat.reduceLT, effOf, effMem, effStore, effCall, effVar, effLit, effMake, effApp, Eff.ap, lend, evLit, evMake, evNil, freeze, onto, dropO, elemsV, sized, evCmp, eqT, eqG, minV, evUn, evField, evExtract, evIndexA, evIndexV, evSlice, optInt, fillV, placeOf, thawed, del, isNilSlice, plain, plainL, cellsJ, junkOk, St.with, setSlots, setObs, wantedD, seqOf, noRange, setAll, Array.size, te, einl, inls]) trivial (fun _ _ => ?_) (fun pre r post _ hp _ g1 g2 g3 g4 => ?_)
        · have e1 : (ms.map (remark (flawF x)) ++ ms.drop ms.length) = ms.map (remark (flawF x)) := by simp
          have e2 : ((ms.map (remark (flawF x))).map encRun).take ms.length = (ms.map (remark (flawF x))).map encRun := List.take_of_length_le (by simp)
          simp only [encRes] at h7 ⊢
          rw [e1]
          simp (maxSteps := 1000000) (implicitDefEqProofs := false) only [Int.lt_irrefl, h7, e2, refFree_runs, Try.ntmps53, Try.results53, efc53, fc53, ss, List.replicate, evOp, evPlain, evVal, evMem, St.eval, St.put, St.get, constV, List.set, lenV, sliceOf, arrayOf, fieldsOf, normOf, norm, firstRegion, look, maskFrom, evBin, evIndexS, evLoad, evVar, evStore, evFieldAddr, nameOf, St.alloc, St.drop, killL, kill, killAll, killObs, killOb, upd, cells?, part, retag, retagL, putIn, refFree, refFreeL, isNew, isNewL, Ty.isAgg, splice, idsL, ids, idsLL, reach, depth, St.dropL, resultsV, resultV, ↓reduceIte, Nat.reduceBEq, Nat.reduceAdd, Nat.reduceSub, Nat.reduceMul, Nat.reduceEqDiff, Nat.reduceLeDiff, Nat.reduceLT, effOf, effMem, effStore, effCall, effVar, effLit, effMake, effApp, Eff.ap, lend, evLit, evMake, evNil, freeze, onto, dropO, elemsV, sized, evCmp, eqT, eqG, minV, evUn, evField, evExtract, evIndexA, evIndexV, evSlice, optInt, fillV, placeOf, thawed, del, isNilSlice, plain, plainL, cellsJ, junkOk, St.with, setSlots, setObs, wantedD, seqOf, noRange, setAll, Array.size, te, einl, inls]
        · have e1 := part_get (g := remark (flawF x)) hp
          have e2 := part_set (g := remark (flawF x)) hp
          generalize hl : pre.map (remark (flawF x)) ++ ms.drop pre.length = cur at *
          have hcl : cur.length = ms.length := by rw [← hl, hp]; simp
          simp (maxSteps := 1000000) (implicitDefEqProofs := false) only [g1, g2, e1, Int.natCast_nonneg, Int.toNat_natCast, List.getElem?_map, encRun, ss, List.replicate, evOp, evPlain, evVal, evMem, St.eval, St.put, St.get, constV, List.set, lenV, sliceOf, arrayOf, fieldsOf, normOf, norm, firstRegion, look, maskFrom, evBin, evIndexS, evLoad, evVar, evStore, evFieldAddr, nameOf, St.alloc, St.drop, killL, kill, killAll, killObs, killOb, upd, cells?, part, retag, retagL, putIn, refFree, refFreeL, isNew, isNewL, Ty.isAgg, splice, idsL, ids, idsLL, reach, depth, St.dropL, resultsV, resultV, ↓reduceIte, Nat.reduceBEq, Nat.reduceAdd, Nat.reduceSub, Nat.reduceMul, Nat.reduceEqDiff, Nat.reduceLeDiff, Nat.reduceLT, effOf, effMem, effStore, effCall, effVar, effLit, effMake, effApp, Eff.ap, lend, evLit, evMake, evNil, freeze, onto, dropO, elemsV, sized, evCmp, eqT, eqG, minV, evUn, evField, evExtract, evIndexA, evIndexV, evSlice, optInt, fillV, placeOf, thawed, del, isNilSlice, plain, plainL, cellsJ, junkOk, St.with, setSlots, setObs, wantedD, seqOf, noRange, setAll, Array.size, te, einl, inls]
          (first | exact ⟨(), trivial⟩ | refine ⟨(), ?_, trivial⟩ | skip)
          rw [g4, ← e2]
          simp [List.map_set, encRun, remark, runOf, Run.mk', flawF, orI]
  · have hv' : (validate rs != 0) = true := by simp [hv]
    simp (maxSteps := 1000000) (implicitDefEqProofs := false) only [Try.ntmps53, Try.results53, efc53, fc53, h1, hv', ss, List.replicate, evOp, evPlain, evVal, evMem, St.eval, St.put, St.get, constV, List.set, lenV, sliceOf, arrayOf, fieldsOf, normOf, norm, firstRegion, look, maskFrom, evBin, evIndexS, evLoad, evVar, evStore, evFieldAddr, nameOf, St.alloc, St.drop, killL, kill, killAll, killObs, killOb, upd, cells?, part, retag, retagL, putIn, refFree, refFreeL, isNew, isNewL, Ty.isAgg, splice, idsL, ids, idsLL, reach, depth, St.dropL, resultsV, resultV, ↓reduceIte, Nat.reduceBEq, Nat.reduceAdd, Nat.reduceSub, Nat.reduceMul, Nat.reduceEqDiff, Nat.reduceLeDiff, Nat.reduceLT, effOf, effMem, effStore, effCall, effVar, effLit, effMake, effApp, Eff.ap, lend, evLit, evMake, evNil, freeze, onto, dropO, elemsV, sized, evCmp, eqT, eqG, minV, evUn, evField, evExtract, evIndexA, evIndexV, evSlice, optInt, fillV, placeOf, thawed, del, isNilSlice, plain, plainL, cellsJ, junkOk, St.with, setSlots, setObs, wantedD, seqOf, noRange, setAll, Array.size, te, einl, inls]
    simp [encRes, changeM, hv]

theorem c55 (rs : List Run) (lo hi x : Int) (hn : rs.length ≤ 100000) : (orcω E X0).call 55 [.sl false (rs.map encRun), .int .i64 lo, .int .i64 hi, .int .i64 x] = some (encRes (changeM rs lo hi (inB x 1 1000) (pressF x))) := by
  refine call_of rfl fn55 rfl ?_
  have h1 := c24 false rs (by omega)
  by_cases hv : validate rs = 0
  · have ho := (valid_okay hv).1
    rw [hv] at h1
    have h2 := c71 rs lo hi (by omega)
    have h3 := c64 x 1 1000
    cases hs : spanM rs lo hi with
    | false =>
      rw [hs] at h2
      simp (maxSteps := 1000000) (implicitDefEqProofs := false) only [Try.ntmps55, Try.results55, efc55, fc55, h1, h2, bne_self_eq_false, ss, List.replicate, evOp, evPlain, evVal, evMem, St.eval, St.put, St.get, constV, List.set, lenV, sliceOf, arrayOf, fieldsOf, normOf, norm, firstRegion, look, maskFrom, evBin, evIndexS, evLoad, evVar, evStore, evFieldAddr, nameOf, St.alloc, St.drop, killL, kill, killAll, killObs, killOb, upd, cells?, part, retag, retagL, putIn, refFree, refFreeL, isNew, isNewL, Ty.isAgg, splice, idsL, ids, idsLL, reach, depth, St.dropL, resultsV, resultV, ↓reduceIte, Nat.reduceBEq, Nat.reduceAdd, Nat.reduceSub, Nat.reduceMul, Nat.reduceEqDiff, Nat.reduceLeDiff, Nat.reduceLT, effOf, effMem, effStore, effCall, effVar, effLit, effMake, effApp, Eff.ap, lend, evLit, evMake, evNil, freeze, onto, dropO, elemsV, sized, evCmp, eqT, eqG, minV, evUn, evField, evExtract, evIndexA, evIndexV, evSlice, optInt, fillV, placeOf, thawed, del, isNilSlice, plain, plainL, cellsJ, junkOk, St.with, setSlots, setObs, wantedD, seqOf, noRange, setAll, Array.size, te, einl, inls]
      simp [encRes, changeM, hv, hs]
    | true =>
      rw [hs] at h2
      cases hb : inB x 1 1000 with
      | false =>
        rw [hb] at h3
        simp (maxSteps := 1000000) (implicitDefEqProofs := false) only [Try.ntmps55, Try.results55, efc55, fc55, h1, h2, h3, bne_self_eq_false, ss, List.replicate, evOp, evPlain, evVal, evMem, St.eval, St.put, St.get, constV, List.set, lenV, sliceOf, arrayOf, fieldsOf, normOf, norm, firstRegion, look, maskFrom, evBin, evIndexS, evLoad, evVar, evStore, evFieldAddr, nameOf, St.alloc, St.drop, killL, kill, killAll, killObs, killOb, upd, cells?, part, retag, retagL, putIn, refFree, refFreeL, isNew, isNewL, Ty.isAgg, splice, idsL, ids, idsLL, reach, depth, St.dropL, resultsV, resultV, ↓reduceIte, Nat.reduceBEq, Nat.reduceAdd, Nat.reduceSub, Nat.reduceMul, Nat.reduceEqDiff, Nat.reduceLeDiff, Nat.reduceLT, effOf, effMem, effStore, effCall, effVar, effLit, effMake, effApp, Eff.ap, lend, evLit, evMake, evNil, freeze, onto, dropO, elemsV, sized, evCmp, eqT, eqG, minV, evUn, evField, evExtract, evIndexA, evIndexV, evSlice, optInt, fillV, placeOf, thawed, del, isNilSlice, plain, plainL, cellsJ, junkOk, St.with, setSlots, setObs, wantedD, seqOf, noRange, setAll, Array.size, te, einl, inls]
        simp [encRes, changeM, hv, hs]
      | true =>
        rw [hb] at h3
        obtain ⟨h5, m1, m2⟩ := span_mod hv hs
        have l1 := cutL_len lo hi rs 0
        have h4 := c72 rs lo hi ho (by omega) m1 m2
        have h7 := c79 rs ((cutL lo hi 0 rs).map (remark (pressF x))) lo hi ho hn (by simp; omega) h5 (fun r hr => by
          obtain ⟨q, hq, rfl⟩ := List.mem_map.1 hr
          have := lens_cut rs 0 q hq
          simp only [remark, runOf]; omega)
        rw [show aroundL rs lo hi ((cutL lo hi 0 rs).map (remark (pressF x))) = changedL rs lo hi (pressF x) from rfl] at h7
        simp only [changeM, hv, hs, if_true, and_self]
        simp (maxSteps := 1000000) (implicitDefEqProofs := false) only [Try.ntmps55, Try.results55, efc55, fc55, h1, h2, h3, h4, bne_self_eq_false, refFree_runs, plain_runs, sized_runs, ss, List.replicate, evOp, evPlain, evVal, evMem, St.eval, St.put, St.get, constV, List.set, lenV, sliceOf, arrayOf, fieldsOf, normOf, norm, firstRegion, look, maskFrom, evBin, evIndexS, evLoad, evVar, evStore, evFieldAddr, nameOf, St.alloc, St.drop, killL, kill, killAll, killObs, killOb, upd, cells?, part, retag, retagL, putIn, refFree, refFreeL, isNew, isNewL, Ty.isAgg, splice, idsL, ids, idsLL, reach, depth, St.dropL, resultsV, resultV, ↓reduceIte, Nat.reduceBEq, Nat.reduceAdd, Nat.reduceSub, Nat.reduceMul, Nat.reduceEqDiff, Nat.reduceLeDiff, Nat.reduceLT, effOf, effMem, effStore, effCall, effVar, effLit, effMake, effApp, Eff.ap, lend, evLit, evMake, evNil, freeze, onto, dropO, elemsV, sized, evCmp, eqT, eqG, minV, evUn, evField, evExtract, evIndexA, evIndexV, evSlice, optInt, fillV, placeOf, thawed, del, isNilSlice, plain, plainL, cellsJ, junkOk, St.with, setSlots, setObs, wantedD, seqOf, noRange, setAll, Array.size, te, einl, inls]
        generalize cutL lo hi 0 rs = ms at *
        generalize hr : loopAt _ _ _ _ _ _ = r; revert r
        refine loop_list ms (fun pre _ => [(12, .int .i64 pre.length)]) (fun pre _ => [(31, { es := 4, flat := true, t := true, app := false, elems := (pre.map (remark (pressF x)) ++ ms.drop pre.length).map encRun })]) (fun _ (_ : Unit) => True) () (by omega)
          (by simp (maxSteps := 1000000) (implicitDefEqProofs := false) only [List.map_nil, List.drop_zero, ss, List.replicate, evOp, evPlain, evVal, evMem, St.eval, St.put, St.get, constV, List.set, lenV, sliceOf, arrayOf, fieldsOf, normOf, norm, firstRegion, look, maskFrom, evBin, evIndexS, evLoad, evVar, evStore, evFieldAddr, nameOf, St.alloc, St.drop, killL, kill, killAll, killObs, killOb, upd, cells?, part, retag, retagL, putIn, refFree, refFreeL, isNew, isNewL, Ty.isAgg, splice, idsL, ids, idsLL, reach, depth, St.dropL, resultsV, resultV, ↓reduceIte, Nat.reduceBEq, Nat.reduceAdd, Nat.reduceSub, Nat.reduceMul, Nat.reduceEqDiff, Nat.reduceLeDiff, Nat.reduceLT, effOf, effMem, effStore, effCall, effVar, effLit, effMake, effApp, Eff.ap, lend, evLit, evMake, evNil, freeze, onto, dropO, elemsV, sized, evCmp, eqT, eqG, minV, evUn, evField, evExtract, evIndexA, evIndexV, evSlice, optInt, fillV, placeOf, thawed, del, isNilSlice, plain, plainL, cellsJ, junkOk, St.with, setSlots, setObs, wantedD, seqOf, noRange, setAll, Array.size, te, einl, inls]) trivial (fun _ _ => ?_) (fun pre r post _ hp _ g1 g2 g3 g4 => ?_)
        · have e1 : (ms.map (remark (pressF x)) ++ ms.drop ms.length) = ms.map (remark (pressF x)) := by simp
          have e2 : ((ms.map (remark (pressF x))).map encRun).take ms.length = (ms.map (remark (pressF x))).map encRun := List.take_of_length_le (by simp)
          simp only [encRes] at h7 ⊢
          rw [e1]
          simp (maxSteps := 1000000) (implicitDefEqProofs := false) only [Int.lt_irrefl, h7, e2, refFree_runs, Try.ntmps55, Try.results55, efc55, fc55, ss, List.replicate, evOp, evPlain, evVal, evMem, St.eval, St.put, St.get, constV, List.set, lenV, sliceOf, arrayOf, fieldsOf, normOf, norm, firstRegion, look, maskFrom, evBin, evIndexS, evLoad, evVar, evStore, evFieldAddr, nameOf, St.alloc, St.drop, killL, kill, killAll, killObs, killOb, upd, cells?, part, retag, retagL, putIn, refFree, refFreeL, isNew, isNewL, Ty.isAgg, splice, idsL, ids, idsLL, reach, depth, St.dropL, resultsV, resultV, ↓reduceIte, Nat.reduceBEq, Nat.reduceAdd, Nat.reduceSub, Nat.reduceMul, Nat.reduceEqDiff, Nat.reduceLeDiff, Nat.reduceLT, effOf, effMem, effStore, effCall, effVar, effLit, effMake, effApp, Eff.ap, lend, evLit, evMake, evNil, freeze, onto, dropO, elemsV, sized, evCmp, eqT, eqG, minV, evUn, evField, evExtract, evIndexA, evIndexV, evSlice, optInt, fillV, placeOf, thawed, del, isNilSlice, plain, plainL, cellsJ, junkOk, St.with, setSlots, setObs, wantedD, seqOf, noRange, setAll, Array.size, te, einl, inls]
        · have e1 := part_get (g := remark (pressF x)) hp
          have e2 := part_set (g := remark (pressF x)) hp
          generalize hl : pre.map (remark (pressF x)) ++ ms.drop pre.length = cur at *
          have hcl : cur.length = ms.length := by rw [← hl, hp]; simp
          by_cases hx : x < r.thick
          · have hmin : min r.thick x = x := by omega
            simp (maxSteps := 1000000) (implicitDefEqProofs := false) only [g1, g2, e1, Int.natCast_nonneg, Int.toNat_natCast, List.getElem?_map, encRun, hx, ss, List.replicate, evOp, evPlain, evVal, evMem, St.eval, St.put, St.get, constV, List.set, lenV, sliceOf, arrayOf, fieldsOf, normOf, norm, firstRegion, look, maskFrom, evBin, evIndexS, evLoad, evVar, evStore, evFieldAddr, nameOf, St.alloc, St.drop, killL, kill, killAll, killObs, killOb, upd, cells?, part, retag, retagL, putIn, refFree, refFreeL, isNew, isNewL, Ty.isAgg, splice, idsL, ids, idsLL, reach, depth, St.dropL, resultsV, resultV, ↓reduceIte, Nat.reduceBEq, Nat.reduceAdd, Nat.reduceSub, Nat.reduceMul, Nat.reduceEqDiff, Nat.reduceLeDiff, Nat.reduceLT, effOf, effMem, effStore, effCall, effVar, effLit, effMake, effApp, Eff.ap, lend, evLit, evMake, evNil, freeze, onto, dropO, elemsV, sized, evCmp, eqT, eqG, minV, evUn, evField, evExtract, evIndexA, evIndexV, evSlice, optInt, fillV, placeOf, thawed, del, isNilSlice, plain, plainL, cellsJ, junkOk, St.with, setSlots, setObs, wantedD, seqOf, noRange, setAll, Array.size, te, einl, inls]
            (first | exact ⟨(), trivial⟩ | refine ⟨(), ?_, trivial⟩ | skip)
            rw [g4, ← e2]
            simp [List.map_set, encRun, remark, runOf, Run.mk', pressF, hmin]
          · have hmin : min r.thick x = r.thick := by omega
            have e3 : remark (pressF x) r = r := by simp [remark, runOf, Run.mk', pressF, hmin]
            have e4 : cur.set pre.length r = cur := by
              obtain ⟨hlt, he⟩ := List.getElem?_eq_some_iff.1 e1
              rw [← he]; simp
            rw [e3, e4] at e2
            simp (maxSteps := 1000000) (implicitDefEqProofs := false) only [g1, g2, e1, Int.natCast_nonneg, Int.toNat_natCast, List.getElem?_map, encRun, hx, ss, List.replicate, evOp, evPlain, evVal, evMem, St.eval, St.put, St.get, constV, List.set, lenV, sliceOf, arrayOf, fieldsOf, normOf, norm, firstRegion, look, maskFrom, evBin, evIndexS, evLoad, evVar, evStore, evFieldAddr, nameOf, St.alloc, St.drop, killL, kill, killAll, killObs, killOb, upd, cells?, part, retag, retagL, putIn, refFree, refFreeL, isNew, isNewL, Ty.isAgg, splice, idsL, ids, idsLL, reach, depth, St.dropL, resultsV, resultV, ↓reduceIte, Nat.reduceBEq, Nat.reduceAdd, Nat.reduceSub, Nat.reduceMul, Nat.reduceEqDiff, Nat.reduceLeDiff, Nat.reduceLT, effOf, effMem, effStore, effCall, effVar, effLit, effMake, effApp, Eff.ap, lend, evLit, evMake, evNil, freeze, onto, dropO, elemsV, sized, evCmp, eqT, eqG, minV, evUn, evField, evExtract, evIndexA, evIndexV, evSlice, optInt, fillV, placeOf, thawed, del, isNilSlice, plain, plainL, cellsJ, junkOk, St.with, setSlots, setObs, wantedD, seqOf, noRange, setAll, Array.size, te, einl, inls]
            (first | exact ⟨(), trivial⟩ | refine ⟨(), ?_, trivial⟩ | skip)
            rw [g4, ← e2]
            try simp
  · have hv' : (validate rs != 0) = true := by simp [hv]
    simp (maxSteps := 1000000) (implicitDefEqProofs := false) only [Try.ntmps55, Try.results55, efc55, fc55, h1, hv', ss, List.replicate, evOp, evPlain, evVal, evMem, St.eval, St.put, St.get, constV, List.set, lenV, sliceOf, arrayOf, fieldsOf, normOf, norm, firstRegion, look, maskFrom, evBin, evIndexS, evLoad, evVar, evStore, evFieldAddr, nameOf, St.alloc, St.drop, killL, kill, killAll, killObs, killOb, upd, cells?, part, retag, retagL, putIn, refFree, refFreeL, isNew, isNewL, Ty.isAgg, splice, idsL, ids, idsLL, reach, depth, St.dropL, resultsV, resultV, ↓reduceIte, Nat.reduceBEq, Nat.reduceAdd, Nat.reduceSub, Nat.reduceMul, Nat.reduceEqDiff, Nat.reduceLeDiff, Nat.reduceLT, effOf, effMem, effStore, effCall, effVar, effLit, effMake, effApp, Eff.ap, lend, evLit, evMake, evNil, freeze, onto, dropO, elemsV, sized, evCmp, eqT, eqG, minV, evUn, evField, evExtract, evIndexA, evIndexV, evSlice, optInt, fillV, placeOf, thawed, del, isNilSlice, plain, plainL, cellsJ, junkOk, St.with, setSlots, setObs, wantedD, seqOf, noRange, setAll, Array.size, te, einl, inls]
    simp [encRes, changeM, hv]

theorem changeM_le (rs : List Run) (lo hi : Int) (ok : Bool) (f : Mk → Mk) : (changeM rs lo hi ok f).1.length ≤ 3 * rs.length := by
  unfold changeM
  split
  · split
    · exact Nat.le_trans (finished_le _) (Nat.le_trans (joined_le _) (changed_le rs lo hi f))
    · exact Nat.zero_le _
  · exact Nat.zero_le _

theorem c11 (xs : List Run) (lo hi fl th : Int) : (orcω E X0).call 11 [.sl false (xs.map encRun), .agg [.int .i64 lo, .int .i64 hi, .int .i64 fl, .int .i64 th]] = some (.bool true) := by
  refine call_of rfl fn11 rfl ?_
  have k1 := c16 false xs
  by_cases hx : (100 : Int) < xs.length
  · simp only [hx, decide_true] at k1
    simp (maxSteps := 1000000) (implicitDefEqProofs := false) only [Try.ntmps11, Try.results11, efc11, fc11, k1, c17, ss, List.replicate, evOp, evPlain, evVal, evMem, St.eval, St.put, St.get, constV, List.set, lenV, sliceOf, arrayOf, fieldsOf, normOf, norm, firstRegion, look, maskFrom, evBin, evIndexS, evLoad, evVar, evStore, evFieldAddr, nameOf, St.alloc, St.drop, killL, kill, killAll, killObs, killOb, upd, cells?, part, retag, retagL, putIn, refFree, refFreeL, isNew, isNewL, Ty.isAgg, splice, idsL, ids, idsLL, reach, depth, St.dropL, resultsV, resultV, ↓reduceIte, Nat.reduceBEq, Nat.reduceAdd, Nat.reduceSub, Nat.reduceMul, Nat.reduceEqDiff, Nat.reduceLeDiff, Nat.reduceLT, effOf, effMem, effStore, effCall, effVar, effLit, effMake, effApp, Eff.ap, lend, evLit, evMake, evNil, freeze, onto, dropO, elemsV, sized, evCmp, eqT, eqG, minV, evUn, evField, evExtract, evIndexA, evIndexV, evSlice, optInt, fillV, placeOf, thawed, del, isNilSlice, plain, plainL, cellsJ, junkOk, St.with, setSlots, setObs, wantedD, seqOf, noRange, setAll, Array.size, te, einl, inls]
  simp only [hx, decide_false] at k1
  have k3 := c18 false xs (by omega)
  have k5 := c52 xs lo hi fl (by omega)
  have k6 := c53 xs lo hi fl (by omega)
  have k7 := c54 xs lo hi th (by omega)
  have k8 := c55 xs lo hi th (by omega)
  have l1 := changeM_le xs lo hi (inB fl 0 15) (flawF fl)
  have l2 := changeM_le xs lo hi (inB th 1 1000) (pressF th)
  generalize changeM xs lo hi (inB fl 0 15) (flawF fl) = J at *
  generalize changeM xs lo hi (inB th 1 1000) (pressF th) = R at *
  obtain ⟨js, je⟩ := J
  obtain ⟨rs, re⟩ := R
  dsimp only at l1 l2
  have s1 := c25 false false js js (by omega)
  have s2 := c25 false false rs rs (by omega)
  have s3 := c25 false false xs xs (by omega)
  have p1 := fun b id outer objs => c26 b id outer objs js (by omega) false
  have p2 := fun b id outer objs => c26 b id outer objs rs (by omega) false
  simp only [decide_true] at s1 s2 s3
  simp only [encRes] at k5 k6 k7 k8
  simp (maxSteps := 1000000) (implicitDefEqProofs := false) only [Try.ntmps11, Try.results11, efc11, fc11, k1, k3, k5, k6, k7, k8, s1, s2, s3, p1, p2, c17, refFree_runs, plain_runs, sized_runs, ss, List.replicate, evOp, evPlain, evVal, evMem, St.eval, St.put, St.get, constV, List.set, lenV, sliceOf, arrayOf, fieldsOf, normOf, norm, firstRegion, look, maskFrom, evBin, evIndexS, evLoad, evVar, evStore, evFieldAddr, nameOf, St.alloc, St.drop, killL, kill, killAll, killObs, killOb, upd, cells?, part, retag, retagL, putIn, refFree, refFreeL, isNew, isNewL, Ty.isAgg, splice, idsL, ids, idsLL, reach, depth, St.dropL, resultsV, resultV, ↓reduceIte, Nat.reduceBEq, Nat.reduceAdd, Nat.reduceSub, Nat.reduceMul, Nat.reduceEqDiff, Nat.reduceLeDiff, Nat.reduceLT, effOf, effMem, effStore, effCall, effVar, effLit, effMake, effApp, Eff.ap, lend, evLit, evMake, evNil, freeze, onto, dropO, elemsV, sized, evCmp, eqT, eqG, minV, evUn, evField, evExtract, evIndexA, evIndexV, evSlice, optInt, fillV, placeOf, thawed, del, isNilSlice, plain, plainL, cellsJ, junkOk, St.with, setSlots, setObs, wantedD, seqOf, noRange, setAll, Array.size, te, einl, inls]

def overM (rs ps : List Run) (at_ : Int) : List Run × Int :=
  if both rs ps = 0 then (if 0 ≤ at_ ∧ at_ ≤ total rs - total ps then finished (joinedL (aroundL rs at_ (at_ + total ps) ps)) else ([], 1)) else ([], both rs ps)

theorem c42 (rs ps : List Run) (x : Int) (hn : rs.length ≤ 100000) (hm : ps.length ≤ 100000) : (orcω E X0).call 42 [.sl false (rs.map encRun), .int .i64 x, .sl false (ps.map encRun)] = some (encRes (overM rs ps x)) := by
  refine call_of rfl fn42 rfl ?_
  have h1 := c65 false false rs ps (by omega) (by omega)
  by_cases hv : both rs ps = 0
  · obtain ⟨v1, v2⟩ := both_zero hv
    obtain ⟨o1, _, t1⟩ := valid_okay v1
    obtain ⟨o2, _, t2⟩ := valid_okay v2
    have n1 := okay_nonneg o1
    have n2 := okay_nonneg o2
    rw [hv] at h1
    have h2 := c61 false rs (by omega)
    have h3 := c61 false ps (by omega)
    rw [ln_total o1] at h2
    rw [ln_total o2] at h3
    by_cases a1 : x < 0
    · simp (maxSteps := 1000000) (implicitDefEqProofs := false) (disch := omega) only [Try.ntmps42, Try.results42, efc42, h1, h2, h3, a1, bne_self_eq_false, wrap_in, ss, List.replicate, evOp, evPlain, evVal, evMem, St.eval, St.put, St.get, constV, List.set, lenV, sliceOf, arrayOf, fieldsOf, normOf, norm, firstRegion, look, maskFrom, evBin, evIndexS, evLoad, evVar, evStore, evFieldAddr, nameOf, St.alloc, St.drop, killL, kill, killAll, killObs, killOb, upd, cells?, part, retag, retagL, putIn, refFree, refFreeL, isNew, isNewL, Ty.isAgg, splice, idsL, ids, idsLL, reach, depth, St.dropL, resultsV, resultV, ↓reduceIte, Nat.reduceBEq, Nat.reduceAdd, Nat.reduceSub, Nat.reduceMul, Nat.reduceEqDiff, Nat.reduceLeDiff, Nat.reduceLT, effOf, effMem, effStore, effCall, effVar, effLit, effMake, effApp, Eff.ap, lend, evLit, evMake, evNil, freeze, onto, dropO, elemsV, sized, evCmp, eqT, eqG, minV, evUn, evField, evExtract, evIndexA, evIndexV, evSlice, optInt, fillV, placeOf, thawed, del, isNilSlice, plain, plainL, cellsJ, junkOk, St.with, setSlots, setObs, wantedD, seqOf, noRange, setAll, Array.size, te, einl, inls]
      simp [encRes, overM, hv, show ¬ 0 ≤ x by omega]
    · by_cases a2 : total rs - total ps < x
      · simp (maxSteps := 1000000) (implicitDefEqProofs := false) (disch := omega) only [Try.ntmps42, Try.results42, efc42, h1, h2, h3, a1, a2, bne_self_eq_false, wrap_in, ss, List.replicate, evOp, evPlain, evVal, evMem, St.eval, St.put, St.get, constV, List.set, lenV, sliceOf, arrayOf, fieldsOf, normOf, norm, firstRegion, look, maskFrom, evBin, evIndexS, evLoad, evVar, evStore, evFieldAddr, nameOf, St.alloc, St.drop, killL, kill, killAll, killObs, killOb, upd, cells?, part, retag, retagL, putIn, refFree, refFreeL, isNew, isNewL, Ty.isAgg, splice, idsL, ids, idsLL, reach, depth, St.dropL, resultsV, resultV, ↓reduceIte, Nat.reduceBEq, Nat.reduceAdd, Nat.reduceSub, Nat.reduceMul, Nat.reduceEqDiff, Nat.reduceLeDiff, Nat.reduceLT, effOf, effMem, effStore, effCall, effVar, effLit, effMake, effApp, Eff.ap, lend, evLit, evMake, evNil, freeze, onto, dropO, elemsV, sized, evCmp, eqT, eqG, minV, evUn, evField, evExtract, evIndexA, evIndexV, evSlice, optInt, fillV, placeOf, thawed, del, isNilSlice, plain, plainL, cellsJ, junkOk, St.with, setSlots, setObs, wantedD, seqOf, noRange, setAll, Array.size, te, einl, inls]
        simp [encRes, overM, hv, show ¬ x ≤ total rs - total ps by omega]
      · have hmod : Mod x ∧ Mod (x + total ps) ∧ Mod 0 ∧ Mod (total rs) := by unfold Mod; omega
        have h4 := c70 rs 0 x o1 (by omega) hmod.2.2.1 hmod.1
        have h5 := c70 rs (x + total ps) (total rs) o1 (by omega) hmod.2.1 hmod.2.2.2
        have l2 := cutL_len 0 x rs 0
        have l3 := cutL_len (x + total ps) (total rs) rs 0
        have h6 := c66 [(true, cutL 0 x 0 rs), (false, ps), (true, cutL (x + total ps) (total rs) 0 rs)] (by simp) (by simp; omega)
        simp only [List.map_cons, List.map_nil, encSl, List.flatMap_cons, List.flatMap_nil, List.append_nil, List.isEmpty_cons] at h6
        change _ = some (V.sl false ((aroundL rs x (x + total ps) ps).map encRun)) at h6
        have h7 := c59 false (aroundL rs x (x + total ps) ps) (by simp [aroundL]; omega)
        simp only [encRes] at h7
        simp (maxSteps := 1000000) (implicitDefEqProofs := false) (disch := omega) only [Try.ntmps42, Try.results42, efc42, h1, h2, h3, a1, a2, h4, h5, h6, h7, bne_self_eq_false, wrap_in, ss, List.replicate, evOp, evPlain, evVal, evMem, St.eval, St.put, St.get, constV, List.set, lenV, sliceOf, arrayOf, fieldsOf, normOf, norm, firstRegion, look, maskFrom, evBin, evIndexS, evLoad, evVar, evStore, evFieldAddr, nameOf, St.alloc, St.drop, killL, kill, killAll, killObs, killOb, upd, cells?, part, retag, retagL, putIn, refFree, refFreeL, isNew, isNewL, Ty.isAgg, splice, idsL, ids, idsLL, reach, depth, St.dropL, resultsV, resultV, ↓reduceIte, Nat.reduceBEq, Nat.reduceAdd, Nat.reduceSub, Nat.reduceMul, Nat.reduceEqDiff, Nat.reduceLeDiff, Nat.reduceLT, effOf, effMem, effStore, effCall, effVar, effLit, effMake, effApp, Eff.ap, lend, evLit, evMake, evNil, freeze, onto, dropO, elemsV, sized, evCmp, eqT, eqG, minV, evUn, evField, evExtract, evIndexA, evIndexV, evSlice, optInt, fillV, placeOf, thawed, del, isNilSlice, plain, plainL, cellsJ, junkOk, St.with, setSlots, setObs, wantedD, seqOf, noRange, setAll, Array.size, te, einl, inls]
        simp [encRes, overM, hv, show 0 ≤ x by omega, show x ≤ total rs - total ps by omega]
  · have hv' : (both rs ps != 0) = true := by simp [hv]
    simp (maxSteps := 1000000) (implicitDefEqProofs := false) only [Try.ntmps42, Try.results42, efc42, h1, hv', ss, List.replicate, evOp, evPlain, evVal, evMem, St.eval, St.put, St.get, constV, List.set, lenV, sliceOf, arrayOf, fieldsOf, normOf, norm, firstRegion, look, maskFrom, evBin, evIndexS, evLoad, evVar, evStore, evFieldAddr, nameOf, St.alloc, St.drop, killL, kill, killAll, killObs, killOb, upd, cells?, part, retag, retagL, putIn, refFree, refFreeL, isNew, isNewL, Ty.isAgg, splice, idsL, ids, idsLL, reach, depth, St.dropL, resultsV, resultV, ↓reduceIte, Nat.reduceBEq, Nat.reduceAdd, Nat.reduceSub, Nat.reduceMul, Nat.reduceEqDiff, Nat.reduceLeDiff, Nat.reduceLT, effOf, effMem, effStore, effCall, effVar, effLit, effMake, effApp, Eff.ap, lend, evLit, evMake, evNil, freeze, onto, dropO, elemsV, sized, evCmp, eqT, eqG, minV, evUn, evField, evExtract, evIndexA, evIndexV, evSlice, optInt, fillV, placeOf, thawed, del, isNilSlice, plain, plainL, cellsJ, junkOk, St.with, setSlots, setObs, wantedD, seqOf, noRange, setAll, Array.size, te, einl, inls]
    simp [encRes, overM, hv]

theorem c43 (rs ps : List Run) (x : Int) (hn : rs.length ≤ 100000) (hm : ps.length ≤ 100000) : (orcω E X0).call 43 [.sl false (rs.map encRun), .int .i64 x, .sl false (ps.map encRun)] = some (encRes (overM rs ps x)) := by
  refine call_of rfl fn43 rfl ?_
  have h1 := c67 false false rs ps (by omega) (by omega)
  by_cases hv : both rs ps = 0
  · obtain ⟨v1, v2⟩ := both_zero hv
    obtain ⟨o1, _, t1⟩ := valid_okay v1
    obtain ⟨o2, _, t2⟩ := valid_okay v2
    have n1 := okay_nonneg o1
    have n2 := okay_nonneg o2
    rw [hv] at h1
    have h2 := c62 false rs (by omega)
    have h3 := c62 false ps (by omega)
    rw [ln_total o1] at h2
    rw [ln_total o2] at h3
    by_cases a1 : x < 0
    · simp (maxSteps := 1000000) (implicitDefEqProofs := false) (disch := omega) only [Try.ntmps43, Try.results43, efc43, h1, h2, h3, a1, bne_self_eq_false, wrap_in, ss, List.replicate, evOp, evPlain, evVal, evMem, St.eval, St.put, St.get, constV, List.set, lenV, sliceOf, arrayOf, fieldsOf, normOf, norm, firstRegion, look, maskFrom, evBin, evIndexS, evLoad, evVar, evStore, evFieldAddr, nameOf, St.alloc, St.drop, killL, kill, killAll, killObs, killOb, upd, cells?, part, retag, retagL, putIn, refFree, refFreeL, isNew, isNewL, Ty.isAgg, splice, idsL, ids, idsLL, reach, depth, St.dropL, resultsV, resultV, ↓reduceIte, Nat.reduceBEq, Nat.reduceAdd, Nat.reduceSub, Nat.reduceMul, Nat.reduceEqDiff, Nat.reduceLeDiff, Nat.reduceLT, effOf, effMem, effStore, effCall, effVar, effLit, effMake, effApp, Eff.ap, lend, evLit, evMake, evNil, freeze, onto, dropO, elemsV, sized, evCmp, eqT, eqG, minV, evUn, evField, evExtract, evIndexA, evIndexV, evSlice, optInt, fillV, placeOf, thawed, del, isNilSlice, plain, plainL, cellsJ, junkOk, St.with, setSlots, setObs, wantedD, seqOf, noRange, setAll, Array.size, te, einl, inls]
      simp [encRes, overM, hv, show ¬ 0 ≤ x by omega]
    · by_cases a2 : total rs - total ps < x
      · simp (maxSteps := 1000000) (implicitDefEqProofs := false) (disch := omega) only [Try.ntmps43, Try.results43, efc43, h1, h2, h3, a1, a2, bne_self_eq_false, wrap_in, ss, List.replicate, evOp, evPlain, evVal, evMem, St.eval, St.put, St.get, constV, List.set, lenV, sliceOf, arrayOf, fieldsOf, normOf, norm, firstRegion, look, maskFrom, evBin, evIndexS, evLoad, evVar, evStore, evFieldAddr, nameOf, St.alloc, St.drop, killL, kill, killAll, killObs, killOb, upd, cells?, part, retag, retagL, putIn, refFree, refFreeL, isNew, isNewL, Ty.isAgg, splice, idsL, ids, idsLL, reach, depth, St.dropL, resultsV, resultV, ↓reduceIte, Nat.reduceBEq, Nat.reduceAdd, Nat.reduceSub, Nat.reduceMul, Nat.reduceEqDiff, Nat.reduceLeDiff, Nat.reduceLT, effOf, effMem, effStore, effCall, effVar, effLit, effMake, effApp, Eff.ap, lend, evLit, evMake, evNil, freeze, onto, dropO, elemsV, sized, evCmp, eqT, eqG, minV, evUn, evField, evExtract, evIndexA, evIndexV, evSlice, optInt, fillV, placeOf, thawed, del, isNilSlice, plain, plainL, cellsJ, junkOk, St.with, setSlots, setObs, wantedD, seqOf, noRange, setAll, Array.size, te, einl, inls]
        simp [encRes, overM, hv, show ¬ x ≤ total rs - total ps by omega]
      · have h7 := c79 rs ps x (x + total ps) o1 hn (by omega) (by omega) (valid_pos v2)
        simp only [encRes] at h7
        simp (maxSteps := 1000000) (implicitDefEqProofs := false) (disch := omega) only [Try.ntmps43, Try.results43, efc43, h1, h2, h3, a1, a2, h7, bne_self_eq_false, wrap_in, ss, List.replicate, evOp, evPlain, evVal, evMem, St.eval, St.put, St.get, constV, List.set, lenV, sliceOf, arrayOf, fieldsOf, normOf, norm, firstRegion, look, maskFrom, evBin, evIndexS, evLoad, evVar, evStore, evFieldAddr, nameOf, St.alloc, St.drop, killL, kill, killAll, killObs, killOb, upd, cells?, part, retag, retagL, putIn, refFree, refFreeL, isNew, isNewL, Ty.isAgg, splice, idsL, ids, idsLL, reach, depth, St.dropL, resultsV, resultV, ↓reduceIte, Nat.reduceBEq, Nat.reduceAdd, Nat.reduceSub, Nat.reduceMul, Nat.reduceEqDiff, Nat.reduceLeDiff, Nat.reduceLT, effOf, effMem, effStore, effCall, effVar, effLit, effMake, effApp, Eff.ap, lend, evLit, evMake, evNil, freeze, onto, dropO, elemsV, sized, evCmp, eqT, eqG, minV, evUn, evField, evExtract, evIndexA, evIndexV, evSlice, optInt, fillV, placeOf, thawed, del, isNilSlice, plain, plainL, cellsJ, junkOk, St.with, setSlots, setObs, wantedD, seqOf, noRange, setAll, Array.size, te, einl, inls]
        simp [encRes, overM, hv, show 0 ≤ x by omega, show x ≤ total rs - total ps by omega]
  · have hv' : (both rs ps != 0) = true := by simp [hv]
    simp (maxSteps := 1000000) (implicitDefEqProofs := false) only [Try.ntmps43, Try.results43, efc43, h1, hv', ss, List.replicate, evOp, evPlain, evVal, evMem, St.eval, St.put, St.get, constV, List.set, lenV, sliceOf, arrayOf, fieldsOf, normOf, norm, firstRegion, look, maskFrom, evBin, evIndexS, evLoad, evVar, evStore, evFieldAddr, nameOf, St.alloc, St.drop, killL, kill, killAll, killObs, killOb, upd, cells?, part, retag, retagL, putIn, refFree, refFreeL, isNew, isNewL, Ty.isAgg, splice, idsL, ids, idsLL, reach, depth, St.dropL, resultsV, resultV, ↓reduceIte, Nat.reduceBEq, Nat.reduceAdd, Nat.reduceSub, Nat.reduceMul, Nat.reduceEqDiff, Nat.reduceLeDiff, Nat.reduceLT, effOf, effMem, effStore, effCall, effVar, effLit, effMake, effApp, Eff.ap, lend, evLit, evMake, evNil, freeze, onto, dropO, elemsV, sized, evCmp, eqT, eqG, minV, evUn, evField, evExtract, evIndexA, evIndexV, evSlice, optInt, fillV, placeOf, thawed, del, isNilSlice, plain, plainL, cellsJ, junkOk, St.with, setSlots, setObs, wantedD, seqOf, noRange, setAll, Array.size, te, einl, inls]
    simp [encRes, overM, hv]

theorem overM_le (rs ps : List Run) (x : Int) : (overM rs ps x).1.length ≤ 2 * rs.length + ps.length := by
  unfold overM
  split
  · split
    · refine Nat.le_trans (finished_le _) (Nat.le_trans (joined_le _) ?_)
      have l2 := cutL_len 0 x rs 0
      have l3 := cutL_len (x + total ps) (total rs) rs 0
      simp [aroundL]; omega
    · exact Nat.zero_le _
  · exact Nat.zero_le _

theorem c9 (xs ys : List Run) (x : Int) : (orcω E X0).call 9 [.sl false (xs.map encRun), .int .i64 x, .sl false (ys.map encRun)] = some (.bool true) := by
  refine call_of rfl fn9 rfl ?_
  have k1 := c16 false xs
  have k2 := c16 false ys
  by_cases hx : (100 : Int) < xs.length
  · simp only [hx, decide_true] at k1
    simp (maxSteps := 1000000) (implicitDefEqProofs := false) only [Try.ntmps9, Try.results9, efc9, fc9, k1, c17, ss, List.replicate, evOp, evPlain, evVal, evMem, St.eval, St.put, St.get, constV, List.set, lenV, sliceOf, arrayOf, fieldsOf, normOf, norm, firstRegion, look, maskFrom, evBin, evIndexS, evLoad, evVar, evStore, evFieldAddr, nameOf, St.alloc, St.drop, killL, kill, killAll, killObs, killOb, upd, cells?, part, retag, retagL, putIn, refFree, refFreeL, isNew, isNewL, Ty.isAgg, splice, idsL, ids, idsLL, reach, depth, St.dropL, resultsV, resultV, ↓reduceIte, Nat.reduceBEq, Nat.reduceAdd, Nat.reduceSub, Nat.reduceMul, Nat.reduceEqDiff, Nat.reduceLeDiff, Nat.reduceLT, effOf, effMem, effStore, effCall, effVar, effLit, effMake, effApp, Eff.ap, lend, evLit, evMake, evNil, freeze, onto, dropO, elemsV, sized, evCmp, eqT, eqG, minV, evUn, evField, evExtract, evIndexA, evIndexV, evSlice, optInt, fillV, placeOf, thawed, del, isNilSlice, plain, plainL, cellsJ, junkOk, St.with, setSlots, setObs, wantedD, seqOf, noRange, setAll, Array.size, te, einl, inls]
  by_cases hy : (100 : Int) < ys.length
  · simp only [hx, hy, decide_true, decide_false] at k1 k2
    simp (maxSteps := 1000000) (implicitDefEqProofs := false) only [Try.ntmps9, Try.results9, efc9, fc9, k1, k2, c17, ss, List.replicate, evOp, evPlain, evVal, evMem, St.eval, St.put, St.get, constV, List.set, lenV, sliceOf, arrayOf, fieldsOf, normOf, norm, firstRegion, look, maskFrom, evBin, evIndexS, evLoad, evVar, evStore, evFieldAddr, nameOf, St.alloc, St.drop, killL, kill, killAll, killObs, killOb, upd, cells?, part, retag, retagL, putIn, refFree, refFreeL, isNew, isNewL, Ty.isAgg, splice, idsL, ids, idsLL, reach, depth, St.dropL, resultsV, resultV, ↓reduceIte, Nat.reduceBEq, Nat.reduceAdd, Nat.reduceSub, Nat.reduceMul, Nat.reduceEqDiff, Nat.reduceLeDiff, Nat.reduceLT, effOf, effMem, effStore, effCall, effVar, effLit, effMake, effApp, Eff.ap, lend, evLit, evMake, evNil, freeze, onto, dropO, elemsV, sized, evCmp, eqT, eqG, minV, evUn, evField, evExtract, evIndexA, evIndexV, evSlice, optInt, fillV, placeOf, thawed, del, isNilSlice, plain, plainL, cellsJ, junkOk, St.with, setSlots, setObs, wantedD, seqOf, noRange, setAll, Array.size, te, einl, inls]
  simp only [hx, hy, decide_false] at k1 k2
  have k3 := c18 false xs (by omega)
  have k4 := c18 false ys (by omega)
  have k5 := c42 xs ys x (by omega) (by omega)
  have k6 := c43 xs ys x (by omega) (by omega)
  have l1 := overM_le xs ys x
  generalize overM xs ys x = J at *
  obtain ⟨js, je⟩ := J
  dsimp only at l1
  have s1 := c25 false false js js (by omega)
  have s3 := c25 false false xs xs (by omega)
  have s4 := c25 false false ys ys (by omega)
  have p1 := fun b id outer objs => c26 b id outer objs js (by omega) false
  simp only [decide_true] at s1 s3 s4
  simp only [encRes] at k5 k6
  simp (maxSteps := 1000000) (implicitDefEqProofs := false) only [Try.ntmps9, Try.results9, efc9, fc9, k1, k2, k3, k4, k5, k6, s1, s3, s4, p1, c17, refFree_runs, plain_runs, sized_runs, ss, List.replicate, evOp, evPlain, evVal, evMem, St.eval, St.put, St.get, constV, List.set, lenV, sliceOf, arrayOf, fieldsOf, normOf, norm, firstRegion, look, maskFrom, evBin, evIndexS, evLoad, evVar, evStore, evFieldAddr, nameOf, St.alloc, St.drop, killL, kill, killAll, killObs, killOb, upd, cells?, part, retag, retagL, putIn, refFree, refFreeL, isNew, isNewL, Ty.isAgg, splice, idsL, ids, idsLL, reach, depth, St.dropL, resultsV, resultV, ↓reduceIte, Nat.reduceBEq, Nat.reduceAdd, Nat.reduceSub, Nat.reduceMul, Nat.reduceEqDiff, Nat.reduceLeDiff, Nat.reduceLT, effOf, effMem, effStore, effCall, effVar, effLit, effMake, effApp, Eff.ap, lend, evLit, evMake, evNil, freeze, onto, dropO, elemsV, sized, evCmp, eqT, eqG, minV, evUn, evField, evExtract, evIndexA, evIndexV, evSlice, optInt, fillV, placeOf, thawed, del, isNilSlice, plain, plainL, cellsJ, junkOk, St.with, setSlots, setObs, wantedD, seqOf, noRange, setAll, Array.size, te, einl, inls]

end Go.AM.A
end
