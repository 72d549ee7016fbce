import Derived.Test.YtdipdaajicceoaaABandI
import Derived.Test.YtdipdaajicceoaaABandH
set_option linter.unusedSimpArgs false
namespace Go.AM.A
open Go Go.Proofs

theorem joinR_eq {rs : List Run} (h : ∀ r ∈ rs, r.len ≠ 0) : joinR rs = joinedL rs := by
  rw [joinR_filter]
  congr 1
  rw [List.filter_eq_self]
  intro r hr
  simpa using h r hr

theorem valid_pos {rs : List Run} (h : validate rs = 0) : ∀ r ∈ rs, r.len ≠ 0 := fun r hr => well_pos (List.all_eq_true.1 (valid_all h) r hr)

theorem both_zero {xs ys : List Run} (h : both xs ys = 0) : validate xs = 0 ∧ validate ys = 0 := by
  unfold both at h
  split at h
  · exact ⟨by assumption, h⟩
  · exact absurd h (by assumption)

def joinM (xs ys : List Run) : List Run × Int := if both xs ys = 0 then finished (joinedL (xs ++ ys)) else ([], both xs ys)
def revM (xs : List Run) : List Run × Int := if validate xs = 0 then finished (joinedL xs.reverse) else ([], validate xs)

theorem d28 (xs ys : List Run) (hn : xs.length ≤ 100000) (hm : ys.length ≤ 100000) : (orcω E X0).call 28 [.sl false (xs.map encRun), .sl false (ys.map encRun)] = some (encRes (joinM xs ys)) := by
  rw [c28 xs ys hn hm, joinM]
  by_cases h : both xs ys = 0
  · rw [if_pos h, if_pos h, joinR_eq]
    intro r hr
    rcases List.mem_append.1 hr with hr | hr
    · exact valid_pos (both_zero h).1 r hr
    · exact valid_pos (both_zero h).2 r hr
  · rw [if_neg h, if_neg h]

theorem d30 (xs : List Run) (hn : xs.length ≤ 100000) : (orcω E X0).call 30 [.sl false (xs.map encRun)] = some (encRes (revM xs)) := by
  rw [c30 xs hn, revM]
  by_cases h : validate xs = 0
  · rw [if_pos h, if_pos h, joinR_eq]
    intro r hr
    exact valid_pos h r (List.mem_reverse.1 hr)
  · rw [if_neg h, if_neg h]

theorem finished_le (js : List Run) : (finished js).1.length ≤ js.length := by
  unfold finished
  split
  · exact Nat.zero_le _
  · exact Nat.le_refl _

theorem joinM_le (xs ys : List Run) : (joinM xs ys).1.length ≤ xs.length + ys.length := by
  unfold joinM
  split
  · refine Nat.le_trans (finished_le _) (Nat.le_trans (joined_le _) ?_)
    simp
  · exact Nat.zero_le _

theorem revM_le (xs : List Run) : (revM xs).1.length ≤ xs.length := by
  unfold revM
  split
  · refine Nat.le_trans (finished_le _) (Nat.le_trans (joined_le _) ?_)
    simp
  · exact Nat.zero_le _

theorem c4 (xs ys : List Run) : (orcω E X0).call 4 [.sl false (xs.map encRun), .sl false (ys.map encRun)] = some (.bool true) := by
  refine call_of rfl fn4 rfl ?_
  have k1 := c16 false xs
  have k2 := c16 false ys
  by_cases hx : (100 : Int) < xs.length
  · simp only [hx, decide_true] at k1
    simp (maxSteps := 1000000) (implicitDefEqProofs := false) only [Try.ntmps4, Try.results4, efc4, fc4, k1, c17, ss, List.replicate, evOp, evPlain, evVal, evMem, St.eval, St.put, St.get, constV, List.set, lenV, sliceOf, arrayOf, fieldsOf, normOf, norm, firstRegion, look, maskFrom, evBin, evIndexS, evLoad, evVar, evStore, evFieldAddr, nameOf, St.alloc, St.drop, killL, kill, killAll, killObs, killOb, upd, cells?, part, retag, retagL, putIn, refFree, refFreeL, isNew, isNewL, Ty.isAgg, splice, idsL, ids, idsLL, reach, depth, St.dropL, resultsV, resultV, ↓reduceIte, Nat.reduceBEq, Nat.reduceAdd, Nat.reduceSub, Nat.reduceMul, Nat.reduceEqDiff, Nat.reduceLeDiff, Nat.reduceLT, effOf, effMem, effStore, effCall, effVar, effLit, effMake, effApp, Eff.ap, lend, evLit, evMake, evNil, freeze, onto, dropO, elemsV, sized, evCmp, eqT, eqG, minV, evUn, evField, evExtract, evIndexA, evIndexV, evSlice, optInt, fillV, placeOf, thawed, del, isNilSlice, plain, plainL, cellsJ, junkOk, St.with, setSlots, setObs, wantedD, seqOf, noRange, setAll, Array.size, ty1, ti1, ty2, ti2, ty3, ti3, ty4, ti4, ty22, ti22, ty26, ti26, ty38, ti38, ty41, ti41, ty53, ti53, ty54, ti54, ty60, ti60, ty63, ti63, ty68, ti68, ty69, ti69, ty80, ti80, ty81, ti81, ty87, ti87, ty88, ti88, ty90, ti90, ty91, ti91, ty92, ti92, ty94, ti94, ty95, ti95, einl, inls]
  by_cases hy : (100 : Int) < ys.length
  · simp only [hx, hy, decide_true, decide_false] at k1 k2
    simp (maxSteps := 1000000) (implicitDefEqProofs := false) only [Try.ntmps4, Try.results4, efc4, fc4, k1, k2, c17, ss, List.replicate, evOp, evPlain, evVal, evMem, St.eval, St.put, St.get, constV, List.set, lenV, sliceOf, arrayOf, fieldsOf, normOf, norm, firstRegion, look, maskFrom, evBin, evIndexS, evLoad, evVar, evStore, evFieldAddr, nameOf, St.alloc, St.drop, killL, kill, killAll, killObs, killOb, upd, cells?, part, retag, retagL, putIn, refFree, refFreeL, isNew, isNewL, Ty.isAgg, splice, idsL, ids, idsLL, reach, depth, St.dropL, resultsV, resultV, ↓reduceIte, Nat.reduceBEq, Nat.reduceAdd, Nat.reduceSub, Nat.reduceMul, Nat.reduceEqDiff, Nat.reduceLeDiff, Nat.reduceLT, effOf, effMem, effStore, effCall, effVar, effLit, effMake, effApp, Eff.ap, lend, evLit, evMake, evNil, freeze, onto, dropO, elemsV, sized, evCmp, eqT, eqG, minV, evUn, evField, evExtract, evIndexA, evIndexV, evSlice, optInt, fillV, placeOf, thawed, del, isNilSlice, plain, plainL, cellsJ, junkOk, St.with, setSlots, setObs, wantedD, seqOf, noRange, setAll, Array.size, ty1, ti1, ty2, ti2, ty3, ti3, ty4, ti4, ty22, ti22, ty26, ti26, ty38, ti38, ty41, ti41, ty53, ti53, ty54, ti54, ty60, ti60, ty63, ti63, ty68, ti68, ty69, ti69, ty80, ti80, ty81, ti81, ty87, ti87, ty88, ti88, ty90, ti90, ty91, ti91, ty92, ti92, ty94, ti94, ty95, ti95, einl, inls]
  simp only [hx, hy, decide_false] at k1 k2
  have k3 := c18 false xs (by omega)
  have k4 := c18 false ys (by omega)
  have k5 := c27 xs ys (by omega) (by omega)
  have k6 := d28 xs ys (by omega) (by omega)
  have k7 := c29 xs (by omega)
  have k8 := d30 xs (by omega)
  change _ = some (encRes (joinM xs ys)) at k5
  change _ = some (encRes (revM xs)) at k7
  have l1 := joinM_le xs ys
  have l2 := revM_le xs
  generalize joinM xs ys = J at *
  generalize revM xs = R at *
  obtain ⟨js, je⟩ := J
  obtain ⟨rs, re⟩ := R
  dsimp only at l1 l2
  have s1 := c25 false false js js (by omega)
  have s2 := c25 false false rs rs (by omega)
  have s3 := c25 false false xs xs (by omega)
  have s4 := c25 false false ys ys (by omega)
  have p1 := fun b id outer objs => c26 b id outer objs js (by omega) false
  have p2 := fun b id outer objs => c26 b id outer objs rs (by omega) false
  simp only [decide_true] at s1 s2 s3 s4
  simp only [encRes] at k5 k6 k7 k8
  simp (maxSteps := 1000000) (implicitDefEqProofs := false) only [Try.ntmps4, Try.results4, efc4, fc4, k1, k2, k3, k4, k5, k6, k7, k8, s1, s2, s3, s4, p1, p2, c17, refFree_runs, plain_runs, sized_runs, ss, List.replicate, evOp, evPlain, evVal, evMem, St.eval, St.put, St.get, constV, List.set, lenV, sliceOf, arrayOf, fieldsOf, normOf, norm, firstRegion, look, maskFrom, evBin, evIndexS, evLoad, evVar, evStore, evFieldAddr, nameOf, St.alloc, St.drop, killL, kill, killAll, killObs, killOb, upd, cells?, part, retag, retagL, putIn, refFree, refFreeL, isNew, isNewL, Ty.isAgg, splice, idsL, ids, idsLL, reach, depth, St.dropL, resultsV, resultV, ↓reduceIte, Nat.reduceBEq, Nat.reduceAdd, Nat.reduceSub, Nat.reduceMul, Nat.reduceEqDiff, Nat.reduceLeDiff, Nat.reduceLT, effOf, effMem, effStore, effCall, effVar, effLit, effMake, effApp, Eff.ap, lend, evLit, evMake, evNil, freeze, onto, dropO, elemsV, sized, evCmp, eqT, eqG, minV, evUn, evField, evExtract, evIndexA, evIndexV, evSlice, optInt, fillV, placeOf, thawed, del, isNilSlice, plain, plainL, cellsJ, junkOk, St.with, setSlots, setObs, wantedD, seqOf, noRange, setAll, Array.size, ty1, ti1, ty2, ti2, ty3, ti3, ty4, ti4, ty22, ti22, ty26, ti26, ty38, ti38, ty41, ti41, ty53, ti53, ty54, ti54, ty60, ti60, ty63, ti63, ty68, ti68, ty69, ti69, ty80, ti80, ty81, ti81, ty87, ti87, ty88, ti88, ty90, ti90, ty91, ti91, ty92, ti92, ty94, ti94, ty95, ti95, einl, inls]

end Go.AM.A
