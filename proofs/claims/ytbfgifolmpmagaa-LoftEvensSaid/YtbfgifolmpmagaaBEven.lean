/-
Two hangings whose poles differ by a drop: their heights add up to it.
-/
import Derived.Test.YtbfgifolmpmagaaBRipe
set_option linter.unusedSimpArgs false

namespace Go.AM.B
open Go Go.AM Go.Proofs

theorem after_eq (a : Int) {r : Int} (hr : 0 < r) : (a.tmod r + r).tmod r = a % r := by
  have h1 := tmod_in a hr
  rw [Int.tmod_eq_emod_of_nonneg (by omega), Int.add_emod_right]
  have h2 := Int.mul_tdiv_add_tmod a r
  conv => rhs; rw [← h2, Int.mul_comm, Int.mul_add_emod_self_right]

theorem hgt_eq {h : Hang} (hd : 1 ≤ h.drop) (p : Int) : hgt h p = min ((p - h.shift) % (2 * h.drop)) (2 * h.drop - (p - h.shift) % (2 * h.drop)) := by
  unfold hgt
  rw [after_eq _ (by omega)]

def mate (h : Hang) : Hang := { h with shift := (h.shift + h.drop).tmod (2 * h.drop) }

theorem mate_ok {h : Hang} (hv : validH h = true) : validH (mate h) = true := by
  obtain ⟨g1, g2, g3⟩ := validH_iff.1 hv
  have h1 := tmod_in (h.shift + h.drop) (b := 2 * h.drop) (by omega)
  have h2 := Int.tmod_nonneg (2 * h.drop) (show 0 ≤ h.shift + h.drop by omega)
  exact validH_iff.2 ⟨g1, ⟨h2, by show (h.shift + h.drop).tmod (2 * h.drop) ≤ 2 * h.drop - 1; omega⟩, g3⟩

theorem mate_hgt {h : Hang} (hv : validH h = true) (p : Int) : hgt h p + hgt (mate h) p = h.drop := by
  obtain ⟨g1, g2, _⟩ := validH_iff.1 hv
  rw [hgt_eq g1.1, hgt_eq (h := mate h) g1.1]
  have hd : (mate h).drop = h.drop := rfl
  rw [hd]
  have hs : (mate h).shift = (h.shift + h.drop) % (2 * h.drop) := by
    show (h.shift + h.drop).tmod (2 * h.drop) = _
    rw [Int.tmod_eq_emod_of_nonneg (by omega)]
  rw [hs]
  generalize hr : 2 * h.drop = r at *
  have e1 := Int.mul_ediv_add_emod (p - h.shift) r
  have e2 := Int.mul_ediv_add_emod (h.shift + h.drop) r
  have b1 := Int.emod_nonneg (p - h.shift) (show r ≠ 0 by omega)
  have b2 := Int.emod_lt_of_pos (p - h.shift) (show 0 < r by omega)
  generalize (p - h.shift) % r = n at *
  generalize (h.shift + h.drop) % r = s at *
  generalize (p - h.shift) / r = k at *
  generalize (h.shift + h.drop) / r = m at *
  have e3 : p - s = (n + h.drop) + r * (k + m - 1) := by
    have : r * (k + m - 1) = r * k + r * m - r := by rw [Int.mul_sub, Int.mul_add, Int.mul_one]
    omega
  rw [e3, Int.add_mul_emod_self_left]
  by_cases hn : n < h.drop
  · rw [Int.emod_eq_of_lt (by omega) (by omega)]
    omega
  · have e4 : n + h.drop = (n - h.drop) + r * 1 := by omega
    rw [e4, Int.add_mul_emod_self_left, Int.emod_eq_of_lt (by omega) (by omega)]
    omega

theorem mate_ripe {h : Hang} (hv : validH h = true) (p : Int) : ripeM [h, mate h] p = h.days * (2 * h.rate - h.fall * h.drop) := by
  have h1 := mate_hgt hv p
  have : ripeM [h, mate h] p = h.days * (h.rate - h.fall * hgt h p) + h.days * (h.rate - h.fall * hgt (mate h) p) := by
    simp [ripeM, ripe1, mate]
  rw [this, ← Int.mul_add]
  congr 1
  have : h.fall * h.drop = h.fall * hgt h p + h.fall * hgt (mate h) p := by rw [← h1, Int.mul_add]
  omega

theorem low_const {l : List Hang} {c : Int} (h : ∀ p, ripeM l p = c) : ∀ k, lowM l k = c
  | 0 => by rw [lowM_zero, h]
  | k + 1 => by rw [lowM_succ, low_const h k, h]; simp
theorem top_const {l : List Hang} {c : Int} (h : ∀ p, ripeM l p = c) : ∀ k, topM l k = c
  | 0 => by rw [topM_zero, h]
  | k + 1 => by rw [topM_succ, top_const h k, h]; simp

set_option maxHeartbeats 4000000 in
theorem c7 (h : Hang) (n : Int) : (orcω E X0).call 7 [encH h, .int .i64 n] = some (.bool true) := by
  refine call_of rfl fn7 rfl ?_
  have k1 := c17 h
  have k2 := c22 h
  unfold encH at k1 k2 ⊢
  cases hv : validH h with
  | false => simp (maxSteps := 1000000) (implicitDefEqProofs := false) only [Try.ntmps7, Try.results7, efc7, k1, k2, hv, c25, ss, List.replicate, evOp, evPlain, evVal, evMem, St.eval, St.put, St.get, constV, List.set, lenV, sliceOf, arrayOf, fieldsOf, normOf, norm, firstRegion, look, maskFrom, evBin, evIndexS, evLoad, evVar, evStore, evFieldAddr, nameOf, St.alloc, St.drop, killL, kill, killAll, killObs, killOb, upd, cells?, part, retag, retagL, putIn, refFree, refFreeL, isNew, isNewL, Ty.isAgg, splice, idsL, ids, idsLL, reach, depth, St.dropL, resultsV, resultV, ↓reduceIte, Nat.reduceBEq, Nat.reduceAdd, Nat.reduceSub, Nat.reduceMul, Nat.reduceEqDiff, Nat.reduceLeDiff, Nat.reduceLT, effOf, effMem, effStore, effCall, effVar, effLit, effMake, effApp, Eff.ap, lend, evLit, evMake, evNil, freeze, onto, dropO, elemsV, sized, evCmp, eqT, eqG, minV, evUn, evField, evExtract, evIndexA, evIndexV, evSlice, optInt, fillV, placeOf, thawed, del, isNilSlice, plain, plainL, cellsJ, junkOk, evLook, evMap, evEnter, effEnter, findV, mapOf, keyOk, evFrame, unframe, closed, fixed, sameEs, pickObs, putObs, wit, sameWit, Option.isSome_some, evNilCheck, St.with, setSlots, setObs, wantedD, seqOf, noRange, setAll, Array.size, te, einl, inls, efr]
  | true =>
  by_cases n1 : n < 1
  · simp (maxSteps := 1000000) (implicitDefEqProofs := false) only [Try.ntmps7, Try.results7, efc7, k1, k2, hv, n1, c25, ss, List.replicate, evOp, evPlain, evVal, evMem, St.eval, St.put, St.get, constV, List.set, lenV, sliceOf, arrayOf, fieldsOf, normOf, norm, firstRegion, look, maskFrom, evBin, evIndexS, evLoad, evVar, evStore, evFieldAddr, nameOf, St.alloc, St.drop, killL, kill, killAll, killObs, killOb, upd, cells?, part, retag, retagL, putIn, refFree, refFreeL, isNew, isNewL, Ty.isAgg, splice, idsL, ids, idsLL, reach, depth, St.dropL, resultsV, resultV, ↓reduceIte, Nat.reduceBEq, Nat.reduceAdd, Nat.reduceSub, Nat.reduceMul, Nat.reduceEqDiff, Nat.reduceLeDiff, Nat.reduceLT, effOf, effMem, effStore, effCall, effVar, effLit, effMake, effApp, Eff.ap, lend, evLit, evMake, evNil, freeze, onto, dropO, elemsV, sized, evCmp, eqT, eqG, minV, evUn, evField, evExtract, evIndexA, evIndexV, evSlice, optInt, fillV, placeOf, thawed, del, isNilSlice, plain, plainL, cellsJ, junkOk, evLook, evMap, evEnter, effEnter, findV, mapOf, keyOk, evFrame, unframe, closed, fixed, sameEs, pickObs, putObs, wit, sameWit, Option.isSome_some, evNilCheck, St.with, setSlots, setObs, wantedD, seqOf, noRange, setAll, Array.size, te, einl, inls, efr]
  by_cases n2 : 4000 < n
  · simp (maxSteps := 1000000) (implicitDefEqProofs := false) only [Try.ntmps7, Try.results7, efc7, k1, k2, hv, n1, n2, c25, ss, List.replicate, evOp, evPlain, evVal, evMem, St.eval, St.put, St.get, constV, List.set, lenV, sliceOf, arrayOf, fieldsOf, normOf, norm, firstRegion, look, maskFrom, evBin, evIndexS, evLoad, evVar, evStore, evFieldAddr, nameOf, St.alloc, St.drop, killL, kill, killAll, killObs, killOb, upd, cells?, part, retag, retagL, putIn, refFree, refFreeL, isNew, isNewL, Ty.isAgg, splice, idsL, ids, idsLL, reach, depth, St.dropL, resultsV, resultV, ↓reduceIte, Nat.reduceBEq, Nat.reduceAdd, Nat.reduceSub, Nat.reduceMul, Nat.reduceEqDiff, Nat.reduceLeDiff, Nat.reduceLT, effOf, effMem, effStore, effCall, effVar, effLit, effMake, effApp, Eff.ap, lend, evLit, evMake, evNil, freeze, onto, dropO, elemsV, sized, evCmp, eqT, eqG, minV, evUn, evField, evExtract, evIndexA, evIndexV, evSlice, optInt, fillV, placeOf, thawed, del, isNilSlice, plain, plainL, cellsJ, junkOk, evLook, evMap, evEnter, effEnter, findV, mapOf, keyOk, evFrame, unframe, closed, fixed, sameEs, pickObs, putObs, wit, sameWit, Option.isSome_some, evNilCheck, St.with, setSlots, setObs, wantedD, seqOf, noRange, setAll, Array.size, te, einl, inls, efr]
  obtain ⟨g1, g2, g3, g4, g5⟩ := validH_iff.1 hv
  have w1 : IntKind.i64.wrap (h.shift + h.drop) = h.shift + h.drop := wrap_in (by omega)
  have w2 : IntKind.i64.wrap (2 * h.drop) = 2 * h.drop := wrap_in (by omega)
  have d0 : 2 * h.drop ≠ 0 := by omega
  have k3 := c36 [h, mate h] n (by simp)
  have r0 : rangeR [h, mate h] n = (h.days * (2 * h.rate - h.fall * h.drop), h.days * (2 * h.rate - h.fall * h.drop), 0) := by
    unfold rangeR
    have e1 : hangsE [h, mate h] = 0 := by simp [hangsE, hv, mate_ok hv]
    rw [if_pos e1, if_pos (inB_iff.2 (by omega)), low_const (mate_ripe hv), top_const (mate_ripe hv)]
  rw [r0] at k3
  simp only [List.map_cons, List.map_nil, encH, mate, encI3] at k3
  have f1 := fall_in hv 0
  have b1 : 0 ≤ h.fall * h.drop ∧ h.fall * h.drop ≤ h.rate := by
    refine ⟨Int.mul_nonneg g5.1 (by omega), ?_⟩
    rw [Int.tdiv_eq_ediv_of_nonneg g4.1] at g5
    have h2 : h.fall * h.drop ≤ h.rate / h.drop * h.drop := Int.mul_le_mul_of_nonneg_right g5.2 (by omega)
    have h3 := Int.ediv_mul_le h.rate (show h.drop ≠ 0 by omega)
    omega
  have b2 : 0 ≤ h.days * (2 * h.rate - h.fall * h.drop) ∧ h.days * (2 * h.rate - h.fall * h.drop) ≤ 2400000 := by
    refine ⟨Int.mul_nonneg g3.1 (by omega), ?_⟩
    have h1 : h.days * (2 * h.rate - h.fall * h.drop) ≤ 12 * (2 * h.rate - h.fall * h.drop) := Int.mul_le_mul_of_nonneg_right g3.2 (by omega)
    omega
  have w3 : IntKind.i64.wrap (2 * h.rate) = 2 * h.rate := wrap_in (by omega)
  have w4 : IntKind.i64.wrap (h.fall * h.drop) = h.fall * h.drop := wrap_in (by omega)
  have w5 : IntKind.i64.wrap (2 * h.rate - h.fall * h.drop) = 2 * h.rate - h.fall * h.drop := wrap_in (by omega)
  have w6 : IntKind.i64.wrap (h.days * (2 * h.rate - h.fall * h.drop)) = h.days * (2 * h.rate - h.fall * h.drop) := wrap_in (by omega)
  simp (maxSteps := 1000000) (implicitDefEqProofs := false) only [Try.ntmps7, Try.results7, efc7, k1, k2, hv, n1, n2, w1, w2, w3, w4, w5, w6, ne_eq, d0, not_false_eq_true, k3, c25, beq_self_eq_true, ss, List.replicate, evOp, evPlain, evVal, evMem, St.eval, St.put, St.get, constV, List.set, lenV, sliceOf, arrayOf, fieldsOf, normOf, norm, firstRegion, look, maskFrom, evBin, evIndexS, evLoad, evVar, evStore, evFieldAddr, nameOf, St.alloc, St.drop, killL, kill, killAll, killObs, killOb, upd, cells?, part, retag, retagL, putIn, refFree, refFreeL, isNew, isNewL, Ty.isAgg, splice, idsL, ids, idsLL, reach, depth, St.dropL, resultsV, resultV, ↓reduceIte, Nat.reduceBEq, Nat.reduceAdd, Nat.reduceSub, Nat.reduceMul, Nat.reduceEqDiff, Nat.reduceLeDiff, Nat.reduceLT, effOf, effMem, effStore, effCall, effVar, effLit, effMake, effApp, Eff.ap, lend, evLit, evMake, evNil, freeze, onto, dropO, elemsV, sized, evCmp, eqT, eqG, minV, evUn, evField, evExtract, evIndexA, evIndexV, evSlice, optInt, fillV, placeOf, thawed, del, isNilSlice, plain, plainL, cellsJ, junkOk, evLook, evMap, evEnter, effEnter, findV, mapOf, keyOk, evFrame, unframe, closed, fixed, sameEs, pickObs, putObs, wit, sameWit, Option.isSome_some, evNilCheck, St.with, setSlots, setObs, wantedD, seqOf, noRange, setAll, Array.size, te, einl, inls, efr]

theorem sized_hangs (l : List Hang) : sized 5 (l.map encH) = true := sized_map (f := encH) (n := 5) (fun h => ⟨[.int .i64 h.drop, .int .i64 h.shift, .int .i64 h.days, .int .i64 h.rate, .int .i64 h.fall], rfl, rfl⟩) l
theorem refFree_hangs (l : List Hang) : refFreeL (l.map encH) = true := refFreeL_map (f := encH) (fun _ => rfl) l
theorem isNew_hangs (l : List Hang) : isNewL (l.map encH) = true := isNewL_map (f := encH) (fun _ => rfl) l

set_option maxHeartbeats 4000000 in
theorem c8 (l : List Hang) (p n : Int) : (orcω E X0).call 8 [.sl false (l.map encH), .int .i64 p, .int .i64 n] = some (.bool true) := by
  refine call_of rfl fn8 rfl ?_
  by_cases hl : 20 < l.length
  · have hl' : (20 : Int) < l.length := by omega
    simp (maxSteps := 1000000) (implicitDefEqProofs := false) only [Try.ntmps8, Try.results8, efc8, fc8, hl', List.length_map, c25, ss, List.replicate, evOp, evPlain, evVal, evMem, St.eval, St.put, St.get, constV, List.set, lenV, sliceOf, arrayOf, fieldsOf, normOf, norm, firstRegion, look, maskFrom, evBin, evIndexS, evLoad, evVar, evStore, evFieldAddr, nameOf, St.alloc, St.drop, killL, kill, killAll, killObs, killOb, upd, cells?, part, retag, retagL, putIn, refFree, refFreeL, isNew, isNewL, Ty.isAgg, splice, idsL, ids, idsLL, reach, depth, St.dropL, resultsV, resultV, ↓reduceIte, Nat.reduceBEq, Nat.reduceAdd, Nat.reduceSub, Nat.reduceMul, Nat.reduceEqDiff, Nat.reduceLeDiff, Nat.reduceLT, effOf, effMem, effStore, effCall, effVar, effLit, effMake, effApp, Eff.ap, lend, evLit, evMake, evNil, freeze, onto, dropO, elemsV, sized, evCmp, eqT, eqG, minV, evUn, evField, evExtract, evIndexA, evIndexV, evSlice, optInt, fillV, placeOf, thawed, del, isNilSlice, plain, plainL, cellsJ, junkOk, evLook, evMap, evEnter, effEnter, findV, mapOf, keyOk, evFrame, unframe, closed, fixed, sameEs, pickObs, putObs, wit, sameWit, Option.isSome_some, evNilCheck, St.with, setSlots, setObs, wantedD, seqOf, noRange, setAll, Array.size, te, einl, inls, efr]
  have hl' : ¬ (20 : Int) < l.length := by omega
  simp (maxSteps := 1000000) (implicitDefEqProofs := false) only [Try.ntmps8, Try.results8, efc8, fc8, hl', List.length_map, ss, List.replicate, evOp, evPlain, evVal, evMem, St.eval, St.put, St.get, constV, List.set, lenV, sliceOf, arrayOf, fieldsOf, normOf, norm, firstRegion, look, maskFrom, evBin, evIndexS, evLoad, evVar, evStore, evFieldAddr, nameOf, St.alloc, St.drop, killL, kill, killAll, killObs, killOb, upd, cells?, part, retag, retagL, putIn, refFree, refFreeL, isNew, isNewL, Ty.isAgg, splice, idsL, ids, idsLL, reach, depth, St.dropL, resultsV, resultV, ↓reduceIte, Nat.reduceBEq, Nat.reduceAdd, Nat.reduceSub, Nat.reduceMul, Nat.reduceEqDiff, Nat.reduceLeDiff, Nat.reduceLT, effOf, effMem, effStore, effCall, effVar, effLit, effMake, effApp, Eff.ap, lend, evLit, evMake, evNil, freeze, onto, dropO, elemsV, sized, evCmp, eqT, eqG, minV, evUn, evField, evExtract, evIndexA, evIndexV, evSlice, optInt, fillV, placeOf, thawed, del, isNilSlice, plain, plainL, cellsJ, junkOk, evLook, evMap, evEnter, effEnter, findV, mapOf, keyOk, evFrame, unframe, closed, fixed, sameEs, pickObs, putObs, wit, sameWit, Option.isSome_some, evNilCheck, St.with, setSlots, setObs, wantedD, seqOf, noRange, setAll, Array.size, te, einl, inls, efr]
  generalize hr : loopAt _ _ _ _ _ _ = r; revert r
  refine loop_list l (fun pre _ => [(7, .own 7 0 pre.length), (8, .own 8 0 pre.length), (9, .int .i64 pre.length)]) (fun pre _ => [(7, { es := 5, flat := true, t := true, app := true, elems := pre.map encH }), (8, { es := 5, flat := true, t := true, app := true, elems := pre.map encH })])
    (fun _ (_ : Unit) => True) () (by omega) (by simp (maxSteps := 1000000) (implicitDefEqProofs := false) only [List.map_nil, ss, List.replicate, evOp, evPlain, evVal, evMem, St.eval, St.put, St.get, constV, List.set, lenV, sliceOf, arrayOf, fieldsOf, normOf, norm, firstRegion, look, maskFrom, evBin, evIndexS, evLoad, evVar, evStore, evFieldAddr, nameOf, St.alloc, St.drop, killL, kill, killAll, killObs, killOb, upd, cells?, part, retag, retagL, putIn, refFree, refFreeL, isNew, isNewL, Ty.isAgg, splice, idsL, ids, idsLL, reach, depth, St.dropL, resultsV, resultV, ↓reduceIte, Nat.reduceBEq, Nat.reduceAdd, Nat.reduceSub, Nat.reduceMul, Nat.reduceEqDiff, Nat.reduceLeDiff, Nat.reduceLT, effOf, effMem, effStore, effCall, effVar, effLit, effMake, effApp, Eff.ap, lend, evLit, evMake, evNil, freeze, onto, dropO, elemsV, sized, evCmp, eqT, eqG, minV, evUn, evField, evExtract, evIndexA, evIndexV, evSlice, optInt, fillV, placeOf, thawed, del, isNilSlice, plain, plainL, cellsJ, junkOk, evLook, evMap, evEnter, effEnter, findV, mapOf, keyOk, evFrame, unframe, closed, fixed, sameEs, pickObs, putObs, wit, sameWit, Option.isSome_some, evNilCheck, St.with, setSlots, setObs, wantedD, seqOf, noRange, setAll, Array.size, te, einl, inls, efr]) trivial (fun _ _ => ?_) (fun pre x post _ hp _ g1 g2 g3 g4 => ?_)
  · have k1 := c37 l p (by omega)
    have k2 := c38 l p (by omega)
    have k3 := c36 l n (by omega)
    have k4 := c39 l n (by omega)
    generalize ripeR l p = r at *
    generalize rangeR l n = q at *
    unfold encI2 at k1 k2
    unfold encI3 at k3 k4
    simp (maxSteps := 1000000) (implicitDefEqProofs := false) only [Int.lt_irrefl, Try.ntmps8, Try.results8, efc8, fc8, List.length_map, k1, k2, k3, k4, c25, beq_self_eq_true, List.drop_zero, List.take_of_length_le, ss, List.replicate, evOp, evPlain, evVal, evMem, St.eval, St.put, St.get, constV, List.set, lenV, sliceOf, arrayOf, fieldsOf, normOf, norm, firstRegion, look, maskFrom, evBin, evIndexS, evLoad, evVar, evStore, evFieldAddr, nameOf, St.alloc, St.drop, killL, kill, killAll, killObs, killOb, upd, cells?, part, retag, retagL, putIn, refFree, refFreeL, isNew, isNewL, Ty.isAgg, splice, idsL, ids, idsLL, reach, depth, St.dropL, resultsV, resultV, ↓reduceIte, Nat.reduceBEq, Nat.reduceAdd, Nat.reduceSub, Nat.reduceMul, Nat.reduceEqDiff, Nat.reduceLeDiff, Nat.reduceLT, effOf, effMem, effStore, effCall, effVar, effLit, effMake, effApp, Eff.ap, lend, evLit, evMake, evNil, freeze, onto, dropO, elemsV, sized, evCmp, eqT, eqG, minV, evUn, evField, evExtract, evIndexA, evIndexV, evSlice, optInt, fillV, placeOf, thawed, del, isNilSlice, plain, plainL, cellsJ, junkOk, evLook, evMap, evEnter, effEnter, findV, mapOf, keyOk, evFrame, unframe, closed, fixed, sameEs, pickObs, putObs, wit, sameWit, Option.isSome_some, evNilCheck, St.with, setSlots, setObs, wantedD, seqOf, noRange, setAll, Array.size, te, einl, inls, efr]
  · have k1 := c17 x
    have k2 := c19 x
    have hroom : roomy (pre.length + 1) 40 = true := by simp [roomy]; omega
    have hbig : pre.length + 1 ≤ 4294967296 := by omega
    have e1 : pre.map encH ++ [encH x] = (pre ++ [x]).map encH := by simp
    have e2 : (pre ++ [x]).length = pre.length + 1 := by simp
    have e3 : encH x = .agg [.int .i64 x.drop, .int .i64 x.shift, .int .i64 x.days, .int .i64 x.rate, .int .i64 x.fall] := rfl
    rw [e3] at k1 k2 e1
    simp (maxSteps := 1000000) (implicitDefEqProofs := false) only [g1, g2, g3, g4, k1, k2, hroom, hbig, e3, Int.natCast_nonneg, Int.toNat_natCast, List.getElem?_map, List.length_map, e1, e2, ss, List.replicate, evOp, evPlain, evVal, evMem, St.eval, St.put, St.get, constV, List.set, lenV, sliceOf, arrayOf, fieldsOf, normOf, norm, firstRegion, look, maskFrom, evBin, evIndexS, evLoad, evVar, evStore, evFieldAddr, nameOf, St.alloc, St.drop, killL, kill, killAll, killObs, killOb, upd, cells?, part, retag, retagL, putIn, refFree, refFreeL, isNew, isNewL, Ty.isAgg, splice, idsL, ids, idsLL, reach, depth, St.dropL, resultsV, resultV, ↓reduceIte, Nat.reduceBEq, Nat.reduceAdd, Nat.reduceSub, Nat.reduceMul, Nat.reduceEqDiff, Nat.reduceLeDiff, Nat.reduceLT, effOf, effMem, effStore, effCall, effVar, effLit, effMake, effApp, Eff.ap, lend, evLit, evMake, evNil, freeze, onto, dropO, elemsV, sized, evCmp, eqT, eqG, minV, evUn, evField, evExtract, evIndexA, evIndexV, evSlice, optInt, fillV, placeOf, thawed, del, isNilSlice, plain, plainL, cellsJ, junkOk, evLook, evMap, evEnter, effEnter, findV, mapOf, keyOk, evFrame, unframe, closed, fixed, sameEs, pickObs, putObs, wit, sameWit, Option.isSome_some, evNilCheck, St.with, setSlots, setObs, wantedD, seqOf, noRange, setAll, Array.size, te, einl, inls, efr]
    (first | exact ⟨(), trivial⟩ | refine ⟨(), ?_, trivial⟩ | skip)
end Go.AM.B
