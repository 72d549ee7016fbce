/-
Lists that are too long for a statement; the law of multiples.
-/
import Derived.Test.YtkacpekakpbalaaEMix
set_option linter.unusedSimpArgs false

namespace Go.AM.E
open Go Go.AM Go.Proofs

def wideM (b : Blend) : Bool := decide (12 < b.cs.length) || decide (12 < b.lo.length) || decide (12 < b.hi.length) || b.cs.any fun c => decide (12 < c.ps.length)
theorem wide_no {b : Blend} (h : wideM b = false) : b.cs.length ≤ 12 := by
  unfold wideM at h
  simp only [Bool.or_eq_false_iff, decide_eq_false_iff_not] at h
  omega
set_option maxRecDepth 20000 in
set_option maxHeartbeats 4000000 in
theorem c26 (b : Blend) : (orcω E XS).call 26 [encBlend b] = some (.bool (wideM b)) := by
  refine call_of rfl fn26 rfl ?_
  unfold wideM
  obtain ⟨tot, cs, lo, hi⟩ := b
  unfold encBlend
  dsimp only
  have t1 : decide (12 < cs.length) = decide ((12 : Int) < cs.length) := decide_eq_decide.2 (by omega)
  have t2 : decide (12 < lo.length) = decide ((12 : Int) < lo.length) := decide_eq_decide.2 (by omega)
  have t3 : decide (12 < hi.length) = decide ((12 : Int) < hi.length) := decide_eq_decide.2 (by omega)
  rw [t1, t2, t3]
  by_cases h1 : (12 : Int) < cs.length
  · simp (maxSteps := 1000000) (implicitDefEqProofs := false) only [Try.ntmps26, Try.results26, efc26, fc26, h1, Bool.true_or, List.length_map, ss, List.replicate, evOp, evPlain, evVal, evMem, St.eval, St.put, St.get, constV, List.set, lenV, sliceOf, arrayOf, fieldsOf, normOf, norm, firstRegion, look, maskFrom, evBin, evIndexS, evLoad, evVar, evStore, evFieldAddr, nameOf, St.alloc, St.drop, killL, kill, killAll, killObs, killOb, upd, cells?, part, retag, retagL, putIn, refFree, refFreeL, isNew, isNewL, Ty.isAgg, splice, idsL, ids, idsLL, reach, depth, St.dropL, resultsV, resultV, ↓reduceIte, Nat.reduceBEq, Nat.reduceAdd, Nat.reduceSub, Nat.reduceMul, Nat.reduceEqDiff, Nat.reduceLeDiff, Nat.reduceLT, effOf, effMem, effStore, effCall, effVar, effLit, effMake, effApp, Eff.ap, lend, evLit, evMake, evNil, freeze, onto, dropO, elemsV, sized, evCmp, eqT, eqG, minV, evUn, evField, evExtract, evIndexA, evIndexV, evSlice, optInt, fillV, placeOf, thawed, del, isNilSlice, plain, plainL, cellsJ, junkOk, evLook, evMap, evEnter, effEnter, findV, mapOf, keyOk, evFrame, unframe, closed, fixed, sameEs, pickObs, putObs, wit, sameWit, Option.isSome_some, evNilCheck, St.with, setSlots, setObs, wantedD, seqOf, noRange, setAll, Array.size, te, einl, inls, efr]
  by_cases h2 : (12 : Int) < lo.length
  · simp (maxSteps := 1000000) (implicitDefEqProofs := false) only [Try.ntmps26, Try.results26, efc26, fc26, h1, h2, Bool.true_or, Bool.or_true, Bool.false_or, List.length_map, ss, List.replicate, evOp, evPlain, evVal, evMem, St.eval, St.put, St.get, constV, List.set, lenV, sliceOf, arrayOf, fieldsOf, normOf, norm, firstRegion, look, maskFrom, evBin, evIndexS, evLoad, evVar, evStore, evFieldAddr, nameOf, St.alloc, St.drop, killL, kill, killAll, killObs, killOb, upd, cells?, part, retag, retagL, putIn, refFree, refFreeL, isNew, isNewL, Ty.isAgg, splice, idsL, ids, idsLL, reach, depth, St.dropL, resultsV, resultV, ↓reduceIte, Nat.reduceBEq, Nat.reduceAdd, Nat.reduceSub, Nat.reduceMul, Nat.reduceEqDiff, Nat.reduceLeDiff, Nat.reduceLT, effOf, effMem, effStore, effCall, effVar, effLit, effMake, effApp, Eff.ap, lend, evLit, evMake, evNil, freeze, onto, dropO, elemsV, sized, evCmp, eqT, eqG, minV, evUn, evField, evExtract, evIndexA, evIndexV, evSlice, optInt, fillV, placeOf, thawed, del, isNilSlice, plain, plainL, cellsJ, junkOk, evLook, evMap, evEnter, effEnter, findV, mapOf, keyOk, evFrame, unframe, closed, fixed, sameEs, pickObs, putObs, wit, sameWit, Option.isSome_some, evNilCheck, St.with, setSlots, setObs, wantedD, seqOf, noRange, setAll, Array.size, te, einl, inls, efr]
  by_cases h3 : (12 : Int) < hi.length
  · simp (maxSteps := 1000000) (implicitDefEqProofs := false) only [Try.ntmps26, Try.results26, efc26, fc26, h1, h2, h3, Bool.true_or, Bool.or_true, Bool.false_or, List.length_map, ss, List.replicate, evOp, evPlain, evVal, evMem, St.eval, St.put, St.get, constV, List.set, lenV, sliceOf, arrayOf, fieldsOf, normOf, norm, firstRegion, look, maskFrom, evBin, evIndexS, evLoad, evVar, evStore, evFieldAddr, nameOf, St.alloc, St.drop, killL, kill, killAll, killObs, killOb, upd, cells?, part, retag, retagL, putIn, refFree, refFreeL, isNew, isNewL, Ty.isAgg, splice, idsL, ids, idsLL, reach, depth, St.dropL, resultsV, resultV, ↓reduceIte, Nat.reduceBEq, Nat.reduceAdd, Nat.reduceSub, Nat.reduceMul, Nat.reduceEqDiff, Nat.reduceLeDiff, Nat.reduceLT, effOf, effMem, effStore, effCall, effVar, effLit, effMake, effApp, Eff.ap, lend, evLit, evMake, evNil, freeze, onto, dropO, elemsV, sized, evCmp, eqT, eqG, minV, evUn, evField, evExtract, evIndexA, evIndexV, evSlice, optInt, fillV, placeOf, thawed, del, isNilSlice, plain, plainL, cellsJ, junkOk, evLook, evMap, evEnter, effEnter, findV, mapOf, keyOk, evFrame, unframe, closed, fixed, sameEs, pickObs, putObs, wit, sameWit, Option.isSome_some, evNilCheck, St.with, setSlots, setObs, wantedD, seqOf, noRange, setAll, Array.size, te, einl, inls, efr]
  simp (maxSteps := 1000000) (implicitDefEqProofs := false) only [Try.ntmps26, Try.results26, efc26, fc26, h1, h2, h3, Bool.false_or, List.length_map, ss, List.replicate, evOp, evPlain, evVal, evMem, St.eval, St.put, St.get, constV, List.set, lenV, sliceOf, arrayOf, fieldsOf, normOf, norm, firstRegion, look, maskFrom, evBin, evIndexS, evLoad, evVar, evStore, evFieldAddr, nameOf, St.alloc, St.drop, killL, kill, killAll, killObs, killOb, upd, cells?, part, retag, retagL, putIn, refFree, refFreeL, isNew, isNewL, Ty.isAgg, splice, idsL, ids, idsLL, reach, depth, St.dropL, resultsV, resultV, ↓reduceIte, Nat.reduceBEq, Nat.reduceAdd, Nat.reduceSub, Nat.reduceMul, Nat.reduceEqDiff, Nat.reduceLeDiff, Nat.reduceLT, effOf, effMem, effStore, effCall, effVar, effLit, effMake, effApp, Eff.ap, lend, evLit, evMake, evNil, freeze, onto, dropO, elemsV, sized, evCmp, eqT, eqG, minV, evUn, evField, evExtract, evIndexA, evIndexV, evSlice, optInt, fillV, placeOf, thawed, del, isNilSlice, plain, plainL, cellsJ, junkOk, evLook, evMap, evEnter, effEnter, findV, mapOf, keyOk, evFrame, unframe, closed, fixed, sameEs, pickObs, putObs, wit, sameWit, Option.isSome_some, evNilCheck, St.with, setSlots, setObs, wantedD, seqOf, noRange, setAll, Array.size, te, einl, inls, efr]
  generalize hr : loopAt _ _ _ _ _ _ = r; revert r
  refine loop_list cs (fun pre _ => [(3, .int .i64 pre.length)]) (fun _ _ => []) (fun pre (_ : Unit) => (pre.any fun c => decide (12 < c.ps.length)) = false) () (by omega) (by simp (maxSteps := 1000000) (implicitDefEqProofs := false) only [ss, List.replicate, evOp, evPlain, evVal, evMem, St.eval, St.put, St.get, constV, List.set, lenV, sliceOf, arrayOf, fieldsOf, normOf, norm, firstRegion, look, maskFrom, evBin, evIndexS, evLoad, evVar, evStore, evFieldAddr, nameOf, St.alloc, St.drop, killL, kill, killAll, killObs, killOb, upd, cells?, part, retag, retagL, putIn, refFree, refFreeL, isNew, isNewL, Ty.isAgg, splice, idsL, ids, idsLL, reach, depth, St.dropL, resultsV, resultV, ↓reduceIte, Nat.reduceBEq, Nat.reduceAdd, Nat.reduceSub, Nat.reduceMul, Nat.reduceEqDiff, Nat.reduceLeDiff, Nat.reduceLT, effOf, effMem, effStore, effCall, effVar, effLit, effMake, effApp, Eff.ap, lend, evLit, evMake, evNil, freeze, onto, dropO, elemsV, sized, evCmp, eqT, eqG, minV, evUn, evField, evExtract, evIndexA, evIndexV, evSlice, optInt, fillV, placeOf, thawed, del, isNilSlice, plain, plainL, cellsJ, junkOk, evLook, evMap, evEnter, effEnter, findV, mapOf, keyOk, evFrame, unframe, closed, fixed, sameEs, pickObs, putObs, wit, sameWit, Option.isSome_some, evNilCheck, St.with, setSlots, setObs, wantedD, seqOf, noRange, setAll, Array.size, te, einl, inls, efr]) rfl (fun _ hi' => ?_) (fun pre x post _ hp hi' g1 g2 g3 g4 => ?_)
  · simp (maxSteps := 1000000) (implicitDefEqProofs := false) only [Int.lt_irrefl, hi', List.length_map, Try.ntmps26, Try.results26, efc26, fc26, ss, List.replicate, evOp, evPlain, evVal, evMem, St.eval, St.put, St.get, constV, List.set, lenV, sliceOf, arrayOf, fieldsOf, normOf, norm, firstRegion, look, maskFrom, evBin, evIndexS, evLoad, evVar, evStore, evFieldAddr, nameOf, St.alloc, St.drop, killL, kill, killAll, killObs, killOb, upd, cells?, part, retag, retagL, putIn, refFree, refFreeL, isNew, isNewL, Ty.isAgg, splice, idsL, ids, idsLL, reach, depth, St.dropL, resultsV, resultV, ↓reduceIte, Nat.reduceBEq, Nat.reduceAdd, Nat.reduceSub, Nat.reduceMul, Nat.reduceEqDiff, Nat.reduceLeDiff, Nat.reduceLT, effOf, effMem, effStore, effCall, effVar, effLit, effMake, effApp, Eff.ap, lend, evLit, evMake, evNil, freeze, onto, dropO, elemsV, sized, evCmp, eqT, eqG, minV, evUn, evField, evExtract, evIndexA, evIndexV, evSlice, optInt, fillV, placeOf, thawed, del, isNilSlice, plain, plainL, cellsJ, junkOk, evLook, evMap, evEnter, effEnter, findV, mapOf, keyOk, evFrame, unframe, closed, fixed, sameEs, pickObs, putObs, wit, sameWit, Option.isSome_some, evNilCheck, St.with, setSlots, setObs, wantedD, seqOf, noRange, setAll, Array.size, te, einl, inls, efr]
  · by_cases hc : (12 : Int) < x.ps.length
    · have e1 : (cs.any fun c => decide (12 < c.ps.length)) = true := by
        rw [hp, List.any_append, List.any_cons, decide_eq_true (show 12 < x.ps.length by omega)]
        simp
      simp (maxSteps := 1000000) (implicitDefEqProofs := false) only [g1, g2, g3, g4, hc, e1, encCem, Int.natCast_nonneg, Int.toNat_natCast, List.getElem?_map, List.length_map, Try.ntmps26, Try.results26, efc26, fc26, ss, List.replicate, evOp, evPlain, evVal, evMem, St.eval, St.put, St.get, constV, List.set, lenV, sliceOf, arrayOf, fieldsOf, normOf, norm, firstRegion, look, maskFrom, evBin, evIndexS, evLoad, evVar, evStore, evFieldAddr, nameOf, St.alloc, St.drop, killL, kill, killAll, killObs, killOb, upd, cells?, part, retag, retagL, putIn, refFree, refFreeL, isNew, isNewL, Ty.isAgg, splice, idsL, ids, idsLL, reach, depth, St.dropL, resultsV, resultV, ↓reduceIte, Nat.reduceBEq, Nat.reduceAdd, Nat.reduceSub, Nat.reduceMul, Nat.reduceEqDiff, Nat.reduceLeDiff, Nat.reduceLT, effOf, effMem, effStore, effCall, effVar, effLit, effMake, effApp, Eff.ap, lend, evLit, evMake, evNil, freeze, onto, dropO, elemsV, sized, evCmp, eqT, eqG, minV, evUn, evField, evExtract, evIndexA, evIndexV, evSlice, optInt, fillV, placeOf, thawed, del, isNilSlice, plain, plainL, cellsJ, junkOk, evLook, evMap, evEnter, effEnter, findV, mapOf, keyOk, evFrame, unframe, closed, fixed, sameEs, pickObs, putObs, wit, sameWit, Option.isSome_some, evNilCheck, St.with, setSlots, setObs, wantedD, seqOf, noRange, setAll, Array.size, te, einl, inls, efr]
    · simp (maxSteps := 1000000) (implicitDefEqProofs := false) only [g1, g2, g3, g4, hc, encCem, Int.natCast_nonneg, Int.toNat_natCast, List.getElem?_map, List.length_map, ss, List.replicate, evOp, evPlain, evVal, evMem, St.eval, St.put, St.get, constV, List.set, lenV, sliceOf, arrayOf, fieldsOf, normOf, norm, firstRegion, look, maskFrom, evBin, evIndexS, evLoad, evVar, evStore, evFieldAddr, nameOf, St.alloc, St.drop, killL, kill, killAll, killObs, killOb, upd, cells?, part, retag, retagL, putIn, refFree, refFreeL, isNew, isNewL, Ty.isAgg, splice, idsL, ids, idsLL, reach, depth, St.dropL, resultsV, resultV, ↓reduceIte, Nat.reduceBEq, Nat.reduceAdd, Nat.reduceSub, Nat.reduceMul, Nat.reduceEqDiff, Nat.reduceLeDiff, Nat.reduceLT, effOf, effMem, effStore, effCall, effVar, effLit, effMake, effApp, Eff.ap, lend, evLit, evMake, evNil, freeze, onto, dropO, elemsV, sized, evCmp, eqT, eqG, minV, evUn, evField, evExtract, evIndexA, evIndexV, evSlice, optInt, fillV, placeOf, thawed, del, isNilSlice, plain, plainL, cellsJ, junkOk, evLook, evMap, evEnter, effEnter, findV, mapOf, keyOk, evFrame, unframe, closed, fixed, sameEs, pickObs, putObs, wit, sameWit, Option.isSome_some, evNilCheck, St.with, setSlots, setObs, wantedD, seqOf, noRange, setAll, Array.size, te, einl, inls, efr]
      refine ⟨(), ?_⟩
      rw [List.any_append, hi', List.any_cons, decide_eq_false (show ¬ 12 < x.ps.length by omega)]
      rfl

theorem inf7 : (drawn (Try.f7.body.getD .skip)).map infosOf = [[([], false), ([], false), ([], false), ([], false), ([], false), ([], false), ([], false), ([], false), ([], false), ([1], false), ([], true), ([], true), ([], true)], [([], false), ([], false), ([], false), ([], false), ([], false), ([], true), ([], true), ([], true), ([], false), ([], false), ([], true), ([], true), ([], true), ([], false), ([], false), ([], true), ([], true), ([], true), ([], true), ([], true), ([], true)]] := by decide +kernel
theorem okD7 : (drawn (Try.f7.body.getD .skip)).all okBad = true := by decide +kernel

theorem u64_all (n : Int) : 0 ≤ IntKind.u64.wrap n := by
  simp [IntKind.wrap, IntKind.bits, IntKind.signed]; omega
def times6 (k : Int) : Int := 2 + (IntKind.u64.wrap k).tmod 6
theorem times6_in (k : Int) : 2 ≤ times6 k ∧ times6 k ≤ 7 := by
  have h1 := Int.tmod_nonneg 6 (u64_all k)
  have h2 := Int.tmod_lt_of_pos (IntKind.u64.wrap k) (show (0 : Int) < 6 by omega)
  unfold times6
  omega
def wtimes (k : Int) (x : List Int) : List Int := x.map fun n => IntKind.i64.wrap (k * n)
theorem wtimes_eq {b : Blend} {x : Amts} {k : Int} (hk : 2 ≤ k ∧ k ≤ 7) (h : rightM b x = true) : IntKind.i64.wrap (k * x.den) = k * x.den ∧ wtimes k x.x = timesX k x.x := by
  obtain ⟨h1, h2, h3⟩ := rightM_iff.1 h
  constructor
  · have := mul_in (a := k) (b := x.den) (A := 7) (B := 1048576) (by omega) (by omega)
    exact wrap_in (by omega)
  · unfold wtimes timesX
    apply List.map_congr_left
    intro n hn
    have := mul_in (a := k) (b := n) (A := 7) (B := 1073741824) (by omega) (h3 n hn)
    exact wrap_in (by omega)
theorem right_len {b : Blend} {x : Amts} (h : ¬ x.x.length = b.cs.length) : rightM b x = false := by
  rw [Bool.eq_false_iff]
  exact fun hh => h (rightM_iff.1 hh).2.1

set_option maxRecDepth 20000 in
set_option maxHeartbeats 16000000 in
theorem c7 (b : Blend) (x : Amts) (k : Int) : (orcω E XS).call 7 [encBlend b, encAmts x, .int .i64 k] = some (.bool true) := by
  refine call_of rfl fn7 rfl ?_
  have hi := inf7
  have ho := okD7
  simp only [Try.f7, Option.getD_some, drawn, List.map_cons, List.map_nil, List.nil_append, List.append_nil, List.cons_append, List.cons.injEq, and_true] at hi
  simp only [Try.f7, Option.getD_some, drawn, List.nil_append, List.append_nil, List.cons_append, List.all_cons, List.all_nil, Bool.and_true, Bool.and_eq_true] at ho
  obtain ⟨hi1, hi2⟩ := hi
  obtain ⟨ho1, ho2⟩ := ho
  have k0 := c17
  have k1 := c26 b
  have hw := wide_no (b := b)
  have k2 := c27 b x
  have k3 := c27 b ⟨IntKind.i64.wrap (times6 k * x.den), wtimes (times6 k) x.x⟩
  have k4 := c28 b x
  have k5 := c28 b ⟨IntKind.i64.wrap (times6 k * x.den), wtimes (times6 k) x.x⟩
  have k6 := c25 b x
  have k7 := c25 b ⟨IntKind.i64.wrap (times6 k * x.den), wtimes (times6 k) x.x⟩
  have t1 := times6_in k
  have hr0 := right_len (b := b) (x := x)
  have heq := wtimes_eq (b := b) (x := x) t1
  have hsame : rightM b x = true → rightM b ⟨IntKind.i64.wrap (times6 k * x.den), wtimes (times6 k) x.x⟩ = true →
      checkE b ⟨IntKind.i64.wrap (times6 k * x.den), wtimes (times6 k) x.x⟩ = checkE b x ∧ costR b ⟨IntKind.i64.wrap (times6 k * x.den), wtimes (times6 k) x.x⟩ = costR b x := by
    intro h1 h2
    obtain ⟨e1, e2⟩ := heq h1
    rw [e1, e2] at h2 ⊢
    exact times_same (by omega) h1 h2
  clear heq
  have wl : (wtimes (times6 k) x.x).length = x.x.length := by simp [wtimes]
  have wg : ∀ (i : Nat) (n : Int), x.x[i]? = some n → (wtimes (times6 k) x.x)[i]? = some (IntKind.i64.wrap (times6 k * n)) := fun i n h => by
    unfold wtimes
    rw [List.getElem?_map, h]
    rfl
  have wk : IntKind.i64.wrap ((IntKind.u64.wrap k).tmod 6) = (IntKind.u64.wrap k).tmod 6 := by
    have : times6 k = 2 + (IntKind.u64.wrap k).tmod 6 := rfl
    exact wrap_in (by omega)
  have wk2 : IntKind.i64.wrap (2 + (IntKind.u64.wrap k).tmod 6) = times6 k := by
    have : times6 k = 2 + (IntKind.u64.wrap k).tmod 6 := rfl
    rw [wrap_in (by omega)]
    rfl
  have n6 : ¬ (6 : Int) = 0 := by decide
  unfold encR at k4 k5
  generalize wtimes (times6 k) x.x = ys at *
  generalize hdw : IntKind.i64.wrap (times6 k * x.den) = dw at *
  generalize times6 k = t at *
  generalize wideM b = wb at *
  generalize rightM b x = r1 at *
  generalize rightM b ⟨dw, ys⟩ = r2 at *
  generalize costR b x = m1 at *
  generalize costR b ⟨dw, ys⟩ = m2 at *
  generalize checkE b x = e1 at *
  generalize checkE b ⟨dw, ys⟩ = e2 at *
  obtain ⟨tot, cs, lo, hb⟩ := b
  obtain ⟨den, x⟩ := x
  simp only [encBlend, encAmts] at k1 k2 k3 k4 k5 k6 k7 ⊢
  dsimp only at *
  by_cases h20 : (x.length : Int) < 20
  rotate_left
  · simp (maxSteps := 1000000) (implicitDefEqProofs := false) only [Try.ntmps7, Try.results7, efc7, fc7, wk, wk2, ne_eq, n6, not_false_eq_true, hdw, List.length_map, ss, List.replicate, evOp, evPlain, evVal, evMem, St.eval, St.put, St.get, constV, List.set, lenV, sliceOf, arrayOf, fieldsOf, normOf, norm, firstRegion, look, maskFrom, evBin, evIndexS, evLoad, evVar, evStore, evFieldAddr, nameOf, St.alloc, St.drop, killL, kill, killAll, killObs, killOb, upd, cells?, part, retag, retagL, putIn, refFree, refFreeL, isNew, isNewL, Ty.isAgg, splice, idsL, ids, idsLL, reach, depth, St.dropL, resultsV, resultV, ↓reduceIte, Nat.reduceBEq, Nat.reduceAdd, Nat.reduceSub, Nat.reduceMul, Nat.reduceEqDiff, Nat.reduceLeDiff, Nat.reduceLT, effOf, effMem, effStore, effCall, effVar, effLit, effMake, effApp, Eff.ap, lend, evLit, evMake, evNil, freeze, onto, dropO, elemsV, sized, evCmp, eqT, eqG, minV, evUn, evField, evExtract, evIndexA, evIndexV, evSlice, optInt, fillV, placeOf, thawed, del, isNilSlice, plain, plainL, cellsJ, junkOk, evLook, evMap, evEnter, effEnter, findV, mapOf, keyOk, evFrame, unframe, closed, fixed, sameEs, pickObs, putObs, wit, sameWit, Option.isSome_some, evNilCheck, St.with, setSlots, setObs, wantedD, seqOf, noRange, setAll, Array.size, te, einl, inls, efr]
    generalize hr : loopAt _ _ _ _ _ _ = r; revert r
    refine loop_inv (ι := Unit) (fun _ => [(8, .int .i64 0)]) (fun _ => []) (fun _ => 0) () (by simp (maxSteps := 1000000) (implicitDefEqProofs := false) only [ss, List.replicate, evOp, evPlain, evVal, evMem, St.eval, St.put, St.get, constV, List.set, lenV, sliceOf, arrayOf, fieldsOf, normOf, norm, firstRegion, look, maskFrom, evBin, evIndexS, evLoad, evVar, evStore, evFieldAddr, nameOf, St.alloc, St.drop, killL, kill, killAll, killObs, killOb, upd, cells?, part, retag, retagL, putIn, refFree, refFreeL, isNew, isNewL, Ty.isAgg, splice, idsL, ids, idsLL, reach, depth, St.dropL, resultsV, resultV, ↓reduceIte, Nat.reduceBEq, Nat.reduceAdd, Nat.reduceSub, Nat.reduceMul, Nat.reduceEqDiff, Nat.reduceLeDiff, Nat.reduceLT, effOf, effMem, effStore, effCall, effVar, effLit, effMake, effApp, Eff.ap, lend, evLit, evMake, evNil, freeze, onto, dropO, elemsV, sized, evCmp, eqT, eqG, minV, evUn, evField, evExtract, evIndexA, evIndexV, evSlice, optInt, fillV, placeOf, thawed, del, isNilSlice, plain, plainL, cellsJ, junkOk, evLook, evMap, evEnter, effEnter, findV, mapOf, keyOk, evFrame, unframe, closed, fixed, sameEs, pickObs, putObs, wit, sameWit, Option.isSome_some, evNilCheck, St.with, setSlots, setObs, wantedD, seqOf, noRange, setAll, Array.size, te, einl, inls, efr]) ?_
    intro _
    have p0 : (0 : Int) < x.length := by omega
    cases wb with
    | true => simp (maxSteps := 1000000) (implicitDefEqProofs := false) only [p0, h20, k0, k1, List.length_map, Try.ntmps7, Try.results7, efc7, fc7, ss, List.replicate, evOp, evPlain, evVal, evMem, St.eval, St.put, St.get, constV, List.set, lenV, sliceOf, arrayOf, fieldsOf, normOf, norm, firstRegion, look, maskFrom, evBin, evIndexS, evLoad, evVar, evStore, evFieldAddr, nameOf, St.alloc, St.drop, killL, kill, killAll, killObs, killOb, upd, cells?, part, retag, retagL, putIn, refFree, refFreeL, isNew, isNewL, Ty.isAgg, splice, idsL, ids, idsLL, reach, depth, St.dropL, resultsV, resultV, ↓reduceIte, Nat.reduceBEq, Nat.reduceAdd, Nat.reduceSub, Nat.reduceMul, Nat.reduceEqDiff, Nat.reduceLeDiff, Nat.reduceLT, effOf, effMem, effStore, effCall, effVar, effLit, effMake, effApp, Eff.ap, lend, evLit, evMake, evNil, freeze, onto, dropO, elemsV, sized, evCmp, eqT, eqG, minV, evUn, evField, evExtract, evIndexA, evIndexV, evSlice, optInt, fillV, placeOf, thawed, del, isNilSlice, plain, plainL, cellsJ, junkOk, evLook, evMap, evEnter, effEnter, findV, mapOf, keyOk, evFrame, unframe, closed, fixed, sameEs, pickObs, putObs, wit, sameWit, Option.isSome_some, evNilCheck, St.with, setSlots, setObs, wantedD, seqOf, noRange, setAll, Array.size, te, einl, inls, efr]
    | false =>
      have hc := hw rfl
      have k2 := k2 (by omega)
      rw [hr0 (by omega)] at k2
      simp (maxSteps := 1000000) (implicitDefEqProofs := false) only [p0, h20, k0, k1, k2, List.length_map, Try.ntmps7, Try.results7, efc7, fc7, ss, List.replicate, evOp, evPlain, evVal, evMem, St.eval, St.put, St.get, constV, List.set, lenV, sliceOf, arrayOf, fieldsOf, normOf, norm, firstRegion, look, maskFrom, evBin, evIndexS, evLoad, evVar, evStore, evFieldAddr, nameOf, St.alloc, St.drop, killL, kill, killAll, killObs, killOb, upd, cells?, part, retag, retagL, putIn, refFree, refFreeL, isNew, isNewL, Ty.isAgg, splice, idsL, ids, idsLL, reach, depth, St.dropL, resultsV, resultV, ↓reduceIte, Nat.reduceBEq, Nat.reduceAdd, Nat.reduceSub, Nat.reduceMul, Nat.reduceEqDiff, Nat.reduceLeDiff, Nat.reduceLT, effOf, effMem, effStore, effCall, effVar, effLit, effMake, effApp, Eff.ap, lend, evLit, evMake, evNil, freeze, onto, dropO, elemsV, sized, evCmp, eqT, eqG, minV, evUn, evField, evExtract, evIndexA, evIndexV, evSlice, optInt, fillV, placeOf, thawed, del, isNilSlice, plain, plainL, cellsJ, junkOk, evLook, evMap, evEnter, effEnter, findV, mapOf, keyOk, evFrame, unframe, closed, fixed, sameEs, pickObs, putObs, wit, sameWit, Option.isSome_some, evNilCheck, St.with, setSlots, setObs, wantedD, seqOf, noRange, setAll, Array.size, te, einl, inls, efr]
  simp (maxSteps := 1000000) (implicitDefEqProofs := false) only [Try.ntmps7, Try.results7, efc7, fc7, wk, wk2, ne_eq, n6, not_false_eq_true, hdw, List.length_map, ss, List.replicate, evOp, evPlain, evVal, evMem, St.eval, St.put, St.get, constV, List.set, lenV, sliceOf, arrayOf, fieldsOf, normOf, norm, firstRegion, look, maskFrom, evBin, evIndexS, evLoad, evVar, evStore, evFieldAddr, nameOf, St.alloc, St.drop, killL, kill, killAll, killObs, killOb, upd, cells?, part, retag, retagL, putIn, refFree, refFreeL, isNew, isNewL, Ty.isAgg, splice, idsL, ids, idsLL, reach, depth, St.dropL, resultsV, resultV, ↓reduceIte, Nat.reduceBEq, Nat.reduceAdd, Nat.reduceSub, Nat.reduceMul, Nat.reduceEqDiff, Nat.reduceLeDiff, Nat.reduceLT, effOf, effMem, effStore, effCall, effVar, effLit, effMake, effApp, Eff.ap, lend, evLit, evMake, evNil, freeze, onto, dropO, elemsV, sized, evCmp, eqT, eqG, minV, evUn, evField, evExtract, evIndexA, evIndexV, evSlice, optInt, fillV, placeOf, thawed, del, isNilSlice, plain, plainL, cellsJ, junkOk, evLook, evMap, evEnter, effEnter, findV, mapOf, keyOk, evFrame, unframe, closed, fixed, sameEs, pickObs, putObs, wit, sameWit, Option.isSome_some, evNilCheck, St.with, setSlots, setObs, wantedD, seqOf, noRange, setAll, Array.size, te, einl, inls, efr]
  generalize hr : loopAt _ _ _ _ _ _ = r; revert r
  refine loop_nat x.length (fun i _ => [(8, .int .i64 (i : Nat))]) (fun i _ => grownObs 7 46 dw ys i) (fun _ (_ : Unit) => True) () (by omega) (by simp (maxSteps := 1000000) (implicitDefEqProofs := false) only [grownObs, Int.natCast_zero, ss, List.replicate, evOp, evPlain, evVal, evMem, St.eval, St.put, St.get, constV, List.set, lenV, sliceOf, arrayOf, fieldsOf, normOf, norm, firstRegion, look, maskFrom, evBin, evIndexS, evLoad, evVar, evStore, evFieldAddr, nameOf, St.alloc, St.drop, killL, kill, killAll, killObs, killOb, upd, cells?, part, retag, retagL, putIn, refFree, refFreeL, isNew, isNewL, Ty.isAgg, splice, idsL, ids, idsLL, reach, depth, St.dropL, resultsV, resultV, ↓reduceIte, Nat.reduceBEq, Nat.reduceAdd, Nat.reduceSub, Nat.reduceMul, Nat.reduceEqDiff, Nat.reduceLeDiff, Nat.reduceLT, effOf, effMem, effStore, effCall, effVar, effLit, effMake, effApp, Eff.ap, lend, evLit, evMake, evNil, freeze, onto, dropO, elemsV, sized, evCmp, eqT, eqG, minV, evUn, evField, evExtract, evIndexA, evIndexV, evSlice, optInt, fillV, placeOf, thawed, del, isNilSlice, plain, plainL, cellsJ, junkOk, evLook, evMap, evEnter, effEnter, findV, mapOf, keyOk, evFrame, unframe, closed, fixed, sameEs, pickObs, putObs, wit, sameWit, Option.isSome_some, evNilCheck, St.with, setSlots, setObs, wantedD, seqOf, noRange, setAll, Array.size, te, einl, inls, efr]) trivial (fun _ _ => ?_) (fun i _ _ a1 a2 a3 => ?_)
  rotate_left
  · have hm : x[i]? = some x[i] := List.getElem?_eq_getElem a1
    have hzi := wg i _ hm
    generalize x[i] = m at *
    by_cases hi0 : i = 0
    · subst hi0
      have q2 : (0 : Int) < x.length := by omega
      have q4 : IntKind.i64.wrap (0 + 1) = 1 := by decide
      have q5 : roomy 1 8 = true := by decide
      have e1 := take_one hzi
      simp (maxSteps := 1000000) (implicitDefEqProofs := false) only [q2, q4, q5, h20, hm, vI, grownObs, e1, regT ho1 hi1, evBT_nil, evBT_cons, effT_true, effT_false, effT2_some, effT2_none, calmT, free, Eff.writes, supp, isBar, Option.toList_some, Option.toList_none, Int.le_refl, Int.natCast_zero, Int.natCast_one, Int.natCast_nonneg, Int.toNat_zero, List.getElem?_map, List.length_map, List.nil_append, if_true, ss, List.replicate, evOp, evPlain, evVal, evMem, St.eval, St.put, St.get, constV, List.set, lenV, sliceOf, arrayOf, fieldsOf, normOf, norm, firstRegion, look, maskFrom, evBin, evIndexS, evLoad, evVar, evStore, evFieldAddr, nameOf, St.alloc, St.drop, killL, kill, killAll, killObs, killOb, upd, cells?, part, retag, retagL, putIn, refFree, refFreeL, isNew, isNewL, Ty.isAgg, splice, idsL, ids, idsLL, reach, depth, St.dropL, resultsV, resultV, ↓reduceIte, Nat.reduceBEq, Nat.reduceAdd, Nat.reduceSub, Nat.reduceMul, Nat.reduceEqDiff, Nat.reduceLeDiff, Nat.reduceLT, effOf, effMem, effStore, effCall, effVar, effLit, effMake, effApp, Eff.ap, lend, evLit, evMake, evNil, freeze, onto, dropO, elemsV, sized, evCmp, eqT, eqG, minV, evUn, evField, evExtract, evIndexA, evIndexV, evSlice, optInt, fillV, placeOf, thawed, del, isNilSlice, plain, plainL, cellsJ, junkOk, evLook, evMap, evEnter, effEnter, findV, mapOf, keyOk, evFrame, unframe, closed, fixed, sameEs, pickObs, putObs, wit, sameWit, Option.isSome_some, evNilCheck, St.with, setSlots, setObs, wantedD, seqOf, noRange, setAll, Array.size, te, einl, inls, efr]
      (first | exact ⟨(), trivial⟩ | refine ⟨(), ?_, trivial⟩ | skip)
    · rw [grown_pos _ _ _ _ hi0, grown_pos _ _ _ _ (show ¬ i + 1 = 0 by omega)]
      have e1 := take_snoc hzi
      have hroom : roomy (i + 1) 8 = true := by simp [roomy]; omega
      have hbig : i + 1 ≤ 4294967296 := by omega
      have tl : (ys.take i).length = i := by simp; omega
      have z2 : sized 1 ((ys.take i).map vI) = true := sized_vI _
      simp (maxSteps := 1000000) (implicitDefEqProofs := false) only [a1, a2, a3, h20, hm, vI, e1, hroom, hbig, tl, z2, regT ho1 hi1, evBT_nil, evBT_cons, effT_true, effT_false, effT2_some, effT2_none, calmT, free, Eff.writes, supp, isBar, Option.toList_some, Option.toList_none, Int.natCast_nonneg, Int.toNat_natCast, List.getElem?_map, List.length_map, ss, List.replicate, evOp, evPlain, evVal, evMem, St.eval, St.put, St.get, constV, List.set, lenV, sliceOf, arrayOf, fieldsOf, normOf, norm, firstRegion, look, maskFrom, evBin, evIndexS, evLoad, evVar, evStore, evFieldAddr, nameOf, St.alloc, St.drop, killL, kill, killAll, killObs, killOb, upd, cells?, part, retag, retagL, putIn, refFree, refFreeL, isNew, isNewL, Ty.isAgg, splice, idsL, ids, idsLL, reach, depth, St.dropL, resultsV, resultV, ↓reduceIte, Nat.reduceBEq, Nat.reduceAdd, Nat.reduceSub, Nat.reduceMul, Nat.reduceEqDiff, Nat.reduceLeDiff, Nat.reduceLT, effOf, effMem, effStore, effCall, effVar, effLit, effMake, effApp, Eff.ap, lend, evLit, evMake, evNil, freeze, onto, dropO, elemsV, sized, evCmp, eqT, eqG, minV, evUn, evField, evExtract, evIndexA, evIndexV, evSlice, optInt, fillV, placeOf, thawed, del, isNilSlice, plain, plainL, cellsJ, junkOk, evLook, evMap, evEnter, effEnter, findV, mapOf, keyOk, evFrame, unframe, closed, fixed, sameEs, pickObs, putObs, wit, sameWit, Option.isSome_some, evNilCheck, St.with, setSlots, setObs, wantedD, seqOf, noRange, setAll, Array.size, te, einl, inls, efr]
      (first | exact ⟨(), trivial⟩ | refine ⟨(), ?_, trivial⟩ | skip)
  have tz2 : (ys.map vI).take x.length = ys.map vI := List.take_of_length_le (by simp; omega)
  have tz : ys.take x.length = ys := List.take_of_length_le (by omega)
  cases wb with
  | true =>
    by_cases hx0 : x.length = 0
    · rw [hx0]
      simp (maxSteps := 1000000) (implicitDefEqProofs := false) only [Int.lt_irrefl, h20, k0, k1, grownObs, hx0, Int.natCast_zero, List.length_map, Try.ntmps7, Try.results7, efc7, fc7, ss, List.replicate, evOp, evPlain, evVal, evMem, St.eval, St.put, St.get, constV, List.set, lenV, sliceOf, arrayOf, fieldsOf, normOf, norm, firstRegion, look, maskFrom, evBin, evIndexS, evLoad, evVar, evStore, evFieldAddr, nameOf, St.alloc, St.drop, killL, kill, killAll, killObs, killOb, upd, cells?, part, retag, retagL, putIn, refFree, refFreeL, isNew, isNewL, Ty.isAgg, splice, idsL, ids, idsLL, reach, depth, St.dropL, resultsV, resultV, ↓reduceIte, Nat.reduceBEq, Nat.reduceAdd, Nat.reduceSub, Nat.reduceMul, Nat.reduceEqDiff, Nat.reduceLeDiff, Nat.reduceLT, effOf, effMem, effStore, effCall, effVar, effLit, effMake, effApp, Eff.ap, lend, evLit, evMake, evNil, freeze, onto, dropO, elemsV, sized, evCmp, eqT, eqG, minV, evUn, evField, evExtract, evIndexA, evIndexV, evSlice, optInt, fillV, placeOf, thawed, del, isNilSlice, plain, plainL, cellsJ, junkOk, evLook, evMap, evEnter, effEnter, findV, mapOf, keyOk, evFrame, unframe, closed, fixed, sameEs, pickObs, putObs, wit, sameWit, Option.isSome_some, evNilCheck, St.with, setSlots, setObs, wantedD, seqOf, noRange, setAll, Array.size, te, einl, inls, efr]
    · rw [grown_pos _ _ _ _ hx0, tz]
      simp (maxSteps := 1000000) (implicitDefEqProofs := false) only [Int.lt_irrefl, h20, k0, k1, List.length_map, Try.ntmps7, Try.results7, efc7, fc7, ss, List.replicate, evOp, evPlain, evVal, evMem, St.eval, St.put, St.get, constV, List.set, lenV, sliceOf, arrayOf, fieldsOf, normOf, norm, firstRegion, look, maskFrom, evBin, evIndexS, evLoad, evVar, evStore, evFieldAddr, nameOf, St.alloc, St.drop, killL, kill, killAll, killObs, killOb, upd, cells?, part, retag, retagL, putIn, refFree, refFreeL, isNew, isNewL, Ty.isAgg, splice, idsL, ids, idsLL, reach, depth, St.dropL, resultsV, resultV, ↓reduceIte, Nat.reduceBEq, Nat.reduceAdd, Nat.reduceSub, Nat.reduceMul, Nat.reduceEqDiff, Nat.reduceLeDiff, Nat.reduceLT, effOf, effMem, effStore, effCall, effVar, effLit, effMake, effApp, Eff.ap, lend, evLit, evMake, evNil, freeze, onto, dropO, elemsV, sized, evCmp, eqT, eqG, minV, evUn, evField, evExtract, evIndexA, evIndexV, evSlice, optInt, fillV, placeOf, thawed, del, isNilSlice, plain, plainL, cellsJ, junkOk, evLook, evMap, evEnter, effEnter, findV, mapOf, keyOk, evFrame, unframe, closed, fixed, sameEs, pickObs, putObs, wit, sameWit, Option.isSome_some, evNilCheck, St.with, setSlots, setObs, wantedD, seqOf, noRange, setAll, Array.size, te, einl, inls, efr]
  | false =>
  have hc := hw rfl
  have k2 := k2 (by omega)
  have k3 := k3 (by omega)
  by_cases hx0 : x.length = 0
  · have hys : ys = [] := List.length_eq_zero_iff.1 (by omega)
    subst hys
    rw [List.map_nil] at k3 k5 k7
    rw [hx0]
    cases r1 with
    | false => simp (maxSteps := 1000000) (implicitDefEqProofs := false) only [Int.lt_irrefl, h20, k0, k1, k2, grownObs, hx0, Int.natCast_zero, List.length_map, Try.ntmps7, Try.results7, efc7, fc7, ss, List.replicate, evOp, evPlain, evVal, evMem, St.eval, St.put, St.get, constV, List.set, lenV, sliceOf, arrayOf, fieldsOf, normOf, norm, firstRegion, look, maskFrom, evBin, evIndexS, evLoad, evVar, evStore, evFieldAddr, nameOf, St.alloc, St.drop, killL, kill, killAll, killObs, killOb, upd, cells?, part, retag, retagL, putIn, refFree, refFreeL, isNew, isNewL, Ty.isAgg, splice, idsL, ids, idsLL, reach, depth, St.dropL, resultsV, resultV, ↓reduceIte, Nat.reduceBEq, Nat.reduceAdd, Nat.reduceSub, Nat.reduceMul, Nat.reduceEqDiff, Nat.reduceLeDiff, Nat.reduceLT, effOf, effMem, effStore, effCall, effVar, effLit, effMake, effApp, Eff.ap, lend, evLit, evMake, evNil, freeze, onto, dropO, elemsV, sized, evCmp, eqT, eqG, minV, evUn, evField, evExtract, evIndexA, evIndexV, evSlice, optInt, fillV, placeOf, thawed, del, isNilSlice, plain, plainL, cellsJ, junkOk, evLook, evMap, evEnter, effEnter, findV, mapOf, keyOk, evFrame, unframe, closed, fixed, sameEs, pickObs, putObs, wit, sameWit, Option.isSome_some, evNilCheck, St.with, setSlots, setObs, wantedD, seqOf, noRange, setAll, Array.size, te, einl, inls, efr]
    | true =>
    cases r2 with
    | false => simp (maxSteps := 1000000) (implicitDefEqProofs := false) only [Int.lt_irrefl, h20, k0, k1, k2, k3, grownObs, hx0, Int.natCast_zero, List.length_map, Try.ntmps7, Try.results7, efc7, fc7, ss, List.replicate, evOp, evPlain, evVal, evMem, St.eval, St.put, St.get, constV, List.set, lenV, sliceOf, arrayOf, fieldsOf, normOf, norm, firstRegion, look, maskFrom, evBin, evIndexS, evLoad, evVar, evStore, evFieldAddr, nameOf, St.alloc, St.drop, killL, kill, killAll, killObs, killOb, upd, cells?, part, retag, retagL, putIn, refFree, refFreeL, isNew, isNewL, Ty.isAgg, splice, idsL, ids, idsLL, reach, depth, St.dropL, resultsV, resultV, ↓reduceIte, Nat.reduceBEq, Nat.reduceAdd, Nat.reduceSub, Nat.reduceMul, Nat.reduceEqDiff, Nat.reduceLeDiff, Nat.reduceLT, effOf, effMem, effStore, effCall, effVar, effLit, effMake, effApp, Eff.ap, lend, evLit, evMake, evNil, freeze, onto, dropO, elemsV, sized, evCmp, eqT, eqG, minV, evUn, evField, evExtract, evIndexA, evIndexV, evSlice, optInt, fillV, placeOf, thawed, del, isNilSlice, plain, plainL, cellsJ, junkOk, evLook, evMap, evEnter, effEnter, findV, mapOf, keyOk, evFrame, unframe, closed, fixed, sameEs, pickObs, putObs, wit, sameWit, Option.isSome_some, evNilCheck, St.with, setSlots, setObs, wantedD, seqOf, noRange, setAll, Array.size, te, einl, inls, efr]
    | true =>
      obtain ⟨s1, s2⟩ := hsame rfl rfl
      subst s1 s2
      simp (maxSteps := 1000000) (implicitDefEqProofs := false) only [Int.lt_irrefl, h20, k0, k1, k2, k3, k4, k5, k6, k7, regT ho2 hi2, evBT_nil, evBT_cons, effT_true, effT_false, effT2_some, effT2_none, calmT, free, Eff.writes, supp, isBar, Option.toList_some, Option.toList_none, beq_self_eq_true, Bool.and_self, grownObs, hx0, Int.natCast_zero, List.length_map, Try.ntmps7, Try.results7, efc7, fc7, ss, List.replicate, evOp, evPlain, evVal, evMem, St.eval, St.put, St.get, constV, List.set, lenV, sliceOf, arrayOf, fieldsOf, normOf, norm, firstRegion, look, maskFrom, evBin, evIndexS, evLoad, evVar, evStore, evFieldAddr, nameOf, St.alloc, St.drop, killL, kill, killAll, killObs, killOb, upd, cells?, part, retag, retagL, putIn, refFree, refFreeL, isNew, isNewL, Ty.isAgg, splice, idsL, ids, idsLL, reach, depth, St.dropL, resultsV, resultV, ↓reduceIte, Nat.reduceBEq, Nat.reduceAdd, Nat.reduceSub, Nat.reduceMul, Nat.reduceEqDiff, Nat.reduceLeDiff, Nat.reduceLT, effOf, effMem, effStore, effCall, effVar, effLit, effMake, effApp, Eff.ap, lend, evLit, evMake, evNil, freeze, onto, dropO, elemsV, sized, evCmp, eqT, eqG, minV, evUn, evField, evExtract, evIndexA, evIndexV, evSlice, optInt, fillV, placeOf, thawed, del, isNilSlice, plain, plainL, cellsJ, junkOk, evLook, evMap, evEnter, effEnter, findV, mapOf, keyOk, evFrame, unframe, closed, fixed, sameEs, pickObs, putObs, wit, sameWit, Option.isSome_some, evNilCheck, St.with, setSlots, setObs, wantedD, seqOf, noRange, setAll, Array.size, te, einl, inls, efr]
  · rw [grown_pos _ _ _ _ hx0, tz]
    cases r1 with
    | false => simp (maxSteps := 1000000) (implicitDefEqProofs := false) only [Int.lt_irrefl, h20, k0, k1, k2, List.length_map, Try.ntmps7, Try.results7, efc7, fc7, ss, List.replicate, evOp, evPlain, evVal, evMem, St.eval, St.put, St.get, constV, List.set, lenV, sliceOf, arrayOf, fieldsOf, normOf, norm, firstRegion, look, maskFrom, evBin, evIndexS, evLoad, evVar, evStore, evFieldAddr, nameOf, St.alloc, St.drop, killL, kill, killAll, killObs, killOb, upd, cells?, part, retag, retagL, putIn, refFree, refFreeL, isNew, isNewL, Ty.isAgg, splice, idsL, ids, idsLL, reach, depth, St.dropL, resultsV, resultV, ↓reduceIte, Nat.reduceBEq, Nat.reduceAdd, Nat.reduceSub, Nat.reduceMul, Nat.reduceEqDiff, Nat.reduceLeDiff, Nat.reduceLT, effOf, effMem, effStore, effCall, effVar, effLit, effMake, effApp, Eff.ap, lend, evLit, evMake, evNil, freeze, onto, dropO, elemsV, sized, evCmp, eqT, eqG, minV, evUn, evField, evExtract, evIndexA, evIndexV, evSlice, optInt, fillV, placeOf, thawed, del, isNilSlice, plain, plainL, cellsJ, junkOk, evLook, evMap, evEnter, effEnter, findV, mapOf, keyOk, evFrame, unframe, closed, fixed, sameEs, pickObs, putObs, wit, sameWit, Option.isSome_some, evNilCheck, St.with, setSlots, setObs, wantedD, seqOf, noRange, setAll, Array.size, te, einl, inls, efr]
    | true =>
    cases r2 with
    | false => simp (maxSteps := 1000000) (implicitDefEqProofs := false) only [Int.lt_irrefl, h20, k0, k1, k2, k3, wl, tz2, List.length_map, Try.ntmps7, Try.results7, efc7, fc7, ss, List.replicate, evOp, evPlain, evVal, evMem, St.eval, St.put, St.get, constV, List.set, lenV, sliceOf, arrayOf, fieldsOf, normOf, norm, firstRegion, look, maskFrom, evBin, evIndexS, evLoad, evVar, evStore, evFieldAddr, nameOf, St.alloc, St.drop, killL, kill, killAll, killObs, killOb, upd, cells?, part, retag, retagL, putIn, refFree, refFreeL, isNew, isNewL, Ty.isAgg, splice, idsL, ids, idsLL, reach, depth, St.dropL, resultsV, resultV, ↓reduceIte, Nat.reduceBEq, Nat.reduceAdd, Nat.reduceSub, Nat.reduceMul, Nat.reduceEqDiff, Nat.reduceLeDiff, Nat.reduceLT, effOf, effMem, effStore, effCall, effVar, effLit, effMake, effApp, Eff.ap, lend, evLit, evMake, evNil, freeze, onto, dropO, elemsV, sized, evCmp, eqT, eqG, minV, evUn, evField, evExtract, evIndexA, evIndexV, evSlice, optInt, fillV, placeOf, thawed, del, isNilSlice, plain, plainL, cellsJ, junkOk, evLook, evMap, evEnter, effEnter, findV, mapOf, keyOk, evFrame, unframe, closed, fixed, sameEs, pickObs, putObs, wit, sameWit, Option.isSome_some, evNilCheck, St.with, setSlots, setObs, wantedD, seqOf, noRange, setAll, Array.size, te, einl, inls, efr]
    | true =>
      obtain ⟨s1, s2⟩ := hsame rfl rfl
      subst s1 s2
      simp (maxSteps := 1000000) (implicitDefEqProofs := false) only [Int.lt_irrefl, h20, k0, k1, k2, k3, k4, k5, k6, k7, wl, tz2, regT ho2 hi2, evBT_nil, evBT_cons, effT_true, effT_false, effT2_some, effT2_none, calmT, free, Eff.writes, supp, isBar, Option.toList_some, Option.toList_none, beq_self_eq_true, Bool.and_self, List.length_map, Try.ntmps7, Try.results7, efc7, fc7, ss, List.replicate, evOp, evPlain, evVal, evMem, St.eval, St.put, St.get, constV, List.set, lenV, sliceOf, arrayOf, fieldsOf, normOf, norm, firstRegion, look, maskFrom, evBin, evIndexS, evLoad, evVar, evStore, evFieldAddr, nameOf, St.alloc, St.drop, killL, kill, killAll, killObs, killOb, upd, cells?, part, retag, retagL, putIn, refFree, refFreeL, isNew, isNewL, Ty.isAgg, splice, idsL, ids, idsLL, reach, depth, St.dropL, resultsV, resultV, ↓reduceIte, Nat.reduceBEq, Nat.reduceAdd, Nat.reduceSub, Nat.reduceMul, Nat.reduceEqDiff, Nat.reduceLeDiff, Nat.reduceLT, effOf, effMem, effStore, effCall, effVar, effLit, effMake, effApp, Eff.ap, lend, evLit, evMake, evNil, freeze, onto, dropO, elemsV, sized, evCmp, eqT, eqG, minV, evUn, evField, evExtract, evIndexA, evIndexV, evSlice, optInt, fillV, placeOf, thawed, del, isNilSlice, plain, plainL, cellsJ, junkOk, evLook, evMap, evEnter, effEnter, findV, mapOf, keyOk, evFrame, unframe, closed, fixed, sameEs, pickObs, putObs, wit, sameWit, Option.isSome_some, evNilCheck, St.with, setSlots, setObs, wantedD, seqOf, noRange, setAll, Array.size, te, einl, inls, efr]
end Go.AM.E
