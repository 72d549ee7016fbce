/-
Totals are divided by weights: the document.
-/
import Derived.Test.YtkacpekakpbalaaEShare
set_option linter.unusedSimpArgs false

namespace Go.AM.E
open Go Go.AM Go.Proofs

theorem quota_snoc {q : List Int} {k : Nat} {x : Int} (h : q[k]? = some x) : (q.take k).map vI ++ [.int .i64 x] = (q.take (k + 1)).map vI := by
  rw [List.take_add_one, h]
  simp [vI]
theorem okT79 : okCode (Try.f79.body.getD .skip) = true := by decide +kernel
set_option maxRecDepth 20000 in
set_option maxHeartbeats 16000000 in
theorem c79 (tot : Int) (ws : List Int) (ht : 0 ≤ tot ∧ tot ≤ 1000) (hn : 1 ≤ ws.length ∧ ws.length ≤ 5) (hw : ∀ n ∈ ws, 0 ≤ n ∧ n ≤ 1048576) : (orcω E XS).call 79 [.int .i64 tot, .sl false (ws.map vI)] = some (encSh (shareM tot ws)) := by
  refine call_of rfl fn79 rfl ?_
  have hok := okT79
  simp only [Try.f79, Option.getD_some, okCode, Bool.and_eq_true, Bool.and_true, Bool.true_and] at hok
  have k1 := c98 tot 0 1099511627776
  rw [inB_iff.2 (by omega)] at k1
  have k2 := c98 ws.length 1 16
  rw [inB_iff.2 (by omega)] at k2
  have k3 := fun x => c98 x 0 1048576
  have hsx := sumX_in (xs := ws) (fun n h => by have := hw n h; omega)
  have hs0 := sum_mono (ws := ws) (fun n h => (hw n h).1)
  have hsm := fun k h => sum_most (ws := ws) (k := k) (fun n h => (hw n h).1) h
  simp (maxSteps := 1000000) (implicitDefEqProofs := false) only [Try.ntmps79, Try.results79, efc79, fc79, k1, k2, Bool.not_true, List.length_map, ss, List.replicate, evOp, evPlain, evVal, evMem, St.eval, St.put, St.get, constV, List.set, lenV, sliceOf, arrayOf, fieldsOf, normOf, norm, firstRegion, look, maskFrom, evBin, evIndexS, evLoad, evVar, evStore, evFieldAddr, nameOf, St.alloc, St.drop, killL, kill, killAll, killObs, killOb, upd, cells?, part, retag, retagL, putIn, refFree, refFreeL, isNew, isNewL, Ty.isAgg, splice, idsL, ids, idsLL, reach, depth, St.dropL, resultsV, resultV, ↓reduceIte, Nat.reduceBEq, Nat.reduceAdd, Nat.reduceSub, Nat.reduceMul, Nat.reduceEqDiff, Nat.reduceLeDiff, Nat.reduceLT, effOf, effMem, effStore, effCall, effVar, effLit, effMake, effApp, Eff.ap, lend, evLit, evMake, evNil, freeze, onto, dropO, elemsV, sized, evCmp, eqT, eqG, minV, evUn, evField, evExtract, evIndexA, evIndexV, evSlice, optInt, fillV, placeOf, thawed, del, isNilSlice, plain, plainL, cellsJ, junkOk, evLook, evMap, evEnter, effEnter, findV, mapOf, keyOk, evFrame, unframe, closed, fixed, sameEs, pickObs, putObs, wit, sameWit, Option.isSome_some, evNilCheck, St.with, setSlots, setObs, wantedD, seqOf, noRange, setAll, Array.size, te, einl, inls, efr]
  generalize hr : loopAt _ _ _ _ _ _ = r; revert r
  refine loop_nat ws.length (fun i _ => [(6, .int .i64 (sumX ws i)), (7, .int .i64 (i : Nat))]) (fun _ _ => []) (fun _ (_ : Unit) => True) () (by omega) (by simp (maxSteps := 1000000) (implicitDefEqProofs := false) only [sumX, Int.natCast_zero, ss, List.replicate, evOp, evPlain, evVal, evMem, St.eval, St.put, St.get, constV, List.set, lenV, sliceOf, arrayOf, fieldsOf, normOf, norm, firstRegion, look, maskFrom, evBin, evIndexS, evLoad, evVar, evStore, evFieldAddr, nameOf, St.alloc, St.drop, killL, kill, killAll, killObs, killOb, upd, cells?, part, retag, retagL, putIn, refFree, refFreeL, isNew, isNewL, Ty.isAgg, splice, idsL, ids, idsLL, reach, depth, St.dropL, resultsV, resultV, ↓reduceIte, Nat.reduceBEq, Nat.reduceAdd, Nat.reduceSub, Nat.reduceMul, Nat.reduceEqDiff, Nat.reduceLeDiff, Nat.reduceLT, effOf, effMem, effStore, effCall, effVar, effLit, effMake, effApp, Eff.ap, lend, evLit, evMake, evNil, freeze, onto, dropO, elemsV, sized, evCmp, eqT, eqG, minV, evUn, evField, evExtract, evIndexA, evIndexV, evSlice, optInt, fillV, placeOf, thawed, del, isNilSlice, plain, plainL, cellsJ, junkOk, evLook, evMap, evEnter, effEnter, findV, mapOf, keyOk, evFrame, unframe, closed, fixed, sameEs, pickObs, putObs, wit, sameWit, Option.isSome_some, evNilCheck, St.with, setSlots, setObs, wantedD, seqOf, noRange, setAll, Array.size, te, einl, inls, efr]) trivial (fun _ _ => ?_) (fun i _ _ a1 a2 a3 => ?_)
  rotate_left
  · have g1 : ws[i]? = some ws[i] := List.getElem?_eq_getElem a1
    have b1 := hw ws[i] (List.getElem_mem _)
    have e1 := sumX_step g1
    have b2 := hsx (i + 1) (by omega)
    have k4 := k3 ws[i]
    rw [inB_iff.2 b1] at k4
    have w1 : IntKind.i64.wrap (sumX ws i + ws[i]) = sumX ws (i + 1) := by rw [← e1, wrap_in (by omega)]
    clear e1 b1 b2
    generalize ws[i] = w at *
    simp (maxSteps := 1000000) (implicitDefEqProofs := false) only [a1, a2, a3, g1, w1, k4, vI, Bool.not_true, Int.natCast_nonneg, Int.toNat_natCast, List.getElem?_map, List.length_map, ss, List.replicate, evOp, evPlain, evVal, evMem, St.eval, St.put, St.get, constV, List.set, lenV, sliceOf, arrayOf, fieldsOf, normOf, norm, firstRegion, look, maskFrom, evBin, evIndexS, evLoad, evVar, evStore, evFieldAddr, nameOf, St.alloc, St.drop, killL, kill, killAll, killObs, killOb, upd, cells?, part, retag, retagL, putIn, refFree, refFreeL, isNew, isNewL, Ty.isAgg, splice, idsL, ids, idsLL, reach, depth, St.dropL, resultsV, resultV, ↓reduceIte, Nat.reduceBEq, Nat.reduceAdd, Nat.reduceSub, Nat.reduceMul, Nat.reduceEqDiff, Nat.reduceLeDiff, Nat.reduceLT, effOf, effMem, effStore, effCall, effVar, effLit, effMake, effApp, Eff.ap, lend, evLit, evMake, evNil, freeze, onto, dropO, elemsV, sized, evCmp, eqT, eqG, minV, evUn, evField, evExtract, evIndexA, evIndexV, evSlice, optInt, fillV, placeOf, thawed, del, isNilSlice, plain, plainL, cellsJ, junkOk, evLook, evMap, evEnter, effEnter, findV, mapOf, keyOk, evFrame, unframe, closed, fixed, sameEs, pickObs, putObs, wit, sameWit, Option.isSome_some, evNilCheck, St.with, setSlots, setObs, wantedD, seqOf, noRange, setAll, Array.size, te, einl, inls, efr]
    (first | exact ⟨(), trivial⟩ | refine ⟨(), ?_, trivial⟩ | skip)
  unfold shareM
  by_cases hz : sumX ws ws.length = 0
  · have q1 : (sumX ws ws.length == 0) = true := by rw [hz]; rfl
    rw [if_pos hz]
    simp (maxSteps := 1000000) (implicitDefEqProofs := false) only [Int.lt_irrefl, q1, encSh, List.map_nil, List.length_map, Try.ntmps79, Try.results79, efc79, fc79, ss, List.replicate, evOp, evPlain, evVal, evMem, St.eval, St.put, St.get, constV, List.set, lenV, sliceOf, arrayOf, fieldsOf, normOf, norm, firstRegion, look, maskFrom, evBin, evIndexS, evLoad, evVar, evStore, evFieldAddr, nameOf, St.alloc, St.drop, killL, kill, killAll, killObs, killOb, upd, cells?, part, retag, retagL, putIn, refFree, refFreeL, isNew, isNewL, Ty.isAgg, splice, idsL, ids, idsLL, reach, depth, St.dropL, resultsV, resultV, ↓reduceIte, Nat.reduceBEq, Nat.reduceAdd, Nat.reduceSub, Nat.reduceMul, Nat.reduceEqDiff, Nat.reduceLeDiff, Nat.reduceLT, effOf, effMem, effStore, effCall, effVar, effLit, effMake, effApp, Eff.ap, lend, evLit, evMake, evNil, freeze, onto, dropO, elemsV, sized, evCmp, eqT, eqG, minV, evUn, evField, evExtract, evIndexA, evIndexV, evSlice, optInt, fillV, placeOf, thawed, del, isNilSlice, plain, plainL, cellsJ, junkOk, evLook, evMap, evEnter, effEnter, findV, mapOf, keyOk, evFrame, unframe, closed, fixed, sameEs, pickObs, putObs, wit, sameWit, Option.isSome_some, evNilCheck, St.with, setSlots, setObs, wantedD, seqOf, noRange, setAll, Array.size, te, einl, inls, efr]
  have q1 : (sumX ws ws.length == 0) = false := by simpa using hz
  rw [if_neg hz]
  have hS : 0 < sumX ws ws.length := by have := hs0 ws.length (Nat.le_refl _); omega
  have hL := fun k hk => left_in (tot := tot) ht.1 hS (fun n h => (hw n h).1) (k := k) hk (hsm k hk)
  have hS2 := hsx ws.length (Nat.le_refl _)
  have hq := fun k w => quota_get (tot := tot) (sum := sumX ws ws.length) (ws := ws) (k := k) (w := w)
  have hr := fun k w => rest_get (tot := tot) (sum := sumX ws ws.length) (ws := ws) (k := k) (w := w)
  have lq : (quotaL tot (sumX ws ws.length) ws).length = ws.length := by simp [quotaL]
  have lr : (restL tot (sumX ws ws.length) ws).length = ws.length := by simp [restL]
  have hl0 : leftL tot (sumX ws ws.length) ws 0 = tot := by simp [leftL, sumX]
  have hls : ∀ k, leftL tot (sumX ws ws.length) ws (k + 1) = leftL tot (sumX ws ws.length) ws k - (quotaL tot (sumX ws ws.length) ws).getD k 0 := fun k => by
    show tot - (_ + _) = tot - _ - _
    omega
  generalize sumX ws ws.length = S at *
  generalize quotaL tot S ws = q at *
  generalize restL tot S ws = r at *
  generalize leftL tot S ws = L at *
  simp (maxSteps := 1000000) (implicitDefEqProofs := false) only [Int.lt_irrefl, q1, List.length_map, ss, List.replicate, evOp, evPlain, evVal, evMem, St.eval, St.put, St.get, constV, List.set, lenV, sliceOf, arrayOf, fieldsOf, normOf, norm, firstRegion, look, maskFrom, evBin, evIndexS, evLoad, evVar, evStore, evFieldAddr, nameOf, St.alloc, St.drop, killL, kill, killAll, killObs, killOb, upd, cells?, part, retag, retagL, putIn, refFree, refFreeL, isNew, isNewL, Ty.isAgg, splice, idsL, ids, idsLL, reach, depth, St.dropL, resultsV, resultV, ↓reduceIte, Nat.reduceBEq, Nat.reduceAdd, Nat.reduceSub, Nat.reduceMul, Nat.reduceEqDiff, Nat.reduceLeDiff, Nat.reduceLT, effOf, effMem, effStore, effCall, effVar, effLit, effMake, effApp, Eff.ap, lend, evLit, evMake, evNil, freeze, onto, dropO, elemsV, sized, evCmp, eqT, eqG, minV, evUn, evField, evExtract, evIndexA, evIndexV, evSlice, optInt, fillV, placeOf, thawed, del, isNilSlice, plain, plainL, cellsJ, junkOk, evLook, evMap, evEnter, effEnter, findV, mapOf, keyOk, evFrame, unframe, closed, fixed, sameEs, pickObs, putObs, wit, sameWit, Option.isSome_some, evNilCheck, St.with, setSlots, setObs, wantedD, seqOf, noRange, setAll, Array.size, te, einl, inls, efr]
  generalize hr : loopAt _ _ _ _ _ _ = r; revert r
  refine loop_nat ws.length (fun i _ => [(8, .own 8 0 i), (9, .own 9 0 i), (10, .int .i64 (L i)), (11, .int .i64 (i : Nat))]) (fun i _ => [(8, obI ((q.take i).map vI)), (9, obI ((r.take i).map vI))]) (fun _ (_ : Unit) => True) () (by omega) (by simp (maxSteps := 1000000) (implicitDefEqProofs := false) only [obI, hl0, List.take_zero, List.map_nil, Int.natCast_zero, ss, List.replicate, evOp, evPlain, evVal, evMem, St.eval, St.put, St.get, constV, List.set, lenV, sliceOf, arrayOf, fieldsOf, normOf, norm, firstRegion, look, maskFrom, evBin, evIndexS, evLoad, evVar, evStore, evFieldAddr, nameOf, St.alloc, St.drop, killL, kill, killAll, killObs, killOb, upd, cells?, part, retag, retagL, putIn, refFree, refFreeL, isNew, isNewL, Ty.isAgg, splice, idsL, ids, idsLL, reach, depth, St.dropL, resultsV, resultV, ↓reduceIte, Nat.reduceBEq, Nat.reduceAdd, Nat.reduceSub, Nat.reduceMul, Nat.reduceEqDiff, Nat.reduceLeDiff, Nat.reduceLT, effOf, effMem, effStore, effCall, effVar, effLit, effMake, effApp, Eff.ap, lend, evLit, evMake, evNil, freeze, onto, dropO, elemsV, sized, evCmp, eqT, eqG, minV, evUn, evField, evExtract, evIndexA, evIndexV, evSlice, optInt, fillV, placeOf, thawed, del, isNilSlice, plain, plainL, cellsJ, junkOk, evLook, evMap, evEnter, effEnter, findV, mapOf, keyOk, evFrame, unframe, closed, fixed, sameEs, pickObs, putObs, wit, sameWit, Option.isSome_some, evNilCheck, St.with, setSlots, setObs, wantedD, seqOf, noRange, setAll, Array.size, te, einl, inls, efr]) trivial (fun _ _ => ?_) (fun i _ _ a1 a2 a3 => ?_)
  rotate_left
  · have g1 : ws[i]? = some ws[i] := List.getElem?_eq_getElem a1
    have b1 := hw ws[i] (List.getElem_mem _)
    have b2 := mul_in ht b1
    have b3 := tdiv_in b2.1 hS
    have q0 : ¬ S = 0 := by omega
    have e1 := hq i _ g1
    have e2 := hr i _ g1
    have f1 := quota_snoc e1
    have f2 := quota_snoc e2
    have f3 : ((q.take (i + 1)).map vI)[i]? = some (.int .i64 ((tot * ws[i]).tdiv S)) := by rw [List.getElem?_map, List.getElem?_take, if_pos (by omega), e1]; rfl
    have e3 := hls i
    rw [getD_some e1] at e3
    have e4 := hL (i + 1) (by omega)
    have w1 : IntKind.i64.wrap (tot * ws[i]) = tot * ws[i] := wrap_in (by omega)
    have w2 : IntKind.i64.wrap ((tot * ws[i]).tdiv S) = (tot * ws[i]).tdiv S := wrap_in (by omega)
    have w4 : IntKind.i64.wrap (L i - (tot * ws[i]).tdiv S) = L (i + 1) := by rw [← e3, wrap_in (by omega)]
    have a4 : (i : Int) < ((i + 1 : Nat) : Int) := by omega
    have hroom : roomy (i + 1) 8 = true := by simp [roomy]; omega
    have hbig : i + 1 ≤ 4294967296 := by omega
    have l1 : (q.take i).length = i := by simp; omega
    have l2 : (r.take i).length = i := by simp; omega
    have l3 : (q.take (i + 1)).length = i + 1 := by simp; omega
    have z1 : sized 1 ((q.take i).map vI) = true := sized_vI _
    have z2 : sized 1 ((r.take i).map vI) = true := sized_vI _
    clear e1 e2 e3 e4 b1 b2 b3
    generalize ws[i] = w at *
    simp (maxSteps := 1000000) (implicitDefEqProofs := false) only [a1, a2, a3, a4, f1, f2, f3, g1, w1, w2, w4, q0, l1, l2, l3, z1, z2, hroom, hbig, obI, ne_eq, not_false_eq_true, vI, Int.natCast_nonneg, Int.toNat_natCast, List.getElem?_map, List.length_map, ss, List.replicate, evOp, evPlain, evVal, evMem, St.eval, St.put, St.get, constV, List.set, lenV, sliceOf, arrayOf, fieldsOf, normOf, norm, firstRegion, look, maskFrom, evBin, evIndexS, evLoad, evVar, evStore, evFieldAddr, nameOf, St.alloc, St.drop, killL, kill, killAll, killObs, killOb, upd, cells?, part, retag, retagL, putIn, refFree, refFreeL, isNew, isNewL, Ty.isAgg, splice, idsL, ids, idsLL, reach, depth, St.dropL, resultsV, resultV, ↓reduceIte, Nat.reduceBEq, Nat.reduceAdd, Nat.reduceSub, Nat.reduceMul, Nat.reduceEqDiff, Nat.reduceLeDiff, Nat.reduceLT, effOf, effMem, effStore, effCall, effVar, effLit, effMake, effApp, Eff.ap, lend, evLit, evMake, evNil, freeze, onto, dropO, elemsV, sized, evCmp, eqT, eqG, minV, evUn, evField, evExtract, evIndexA, evIndexV, evSlice, optInt, fillV, placeOf, thawed, del, isNilSlice, plain, plainL, cellsJ, junkOk, evLook, evMap, evEnter, effEnter, findV, mapOf, keyOk, evFrame, unframe, closed, fixed, sameEs, pickObs, putObs, wit, sameWit, Option.isSome_some, evNilCheck, St.with, setSlots, setObs, wantedD, seqOf, noRange, setAll, Array.size, te, einl, inls, efr]
    (first | exact ⟨(), trivial⟩ | refine ⟨(), ?_, trivial⟩ | skip)
  have f1 : q.take ws.length = q := List.take_of_length_le (by omega)
  have f2 : r.take ws.length = r := List.take_of_length_le (by omega)
  simp (maxSteps := 1000000) (implicitDefEqProofs := false) only [Int.lt_irrefl, f1, f2, obI, List.length_map, ss, List.replicate, evOp, evPlain, evVal, evMem, St.eval, St.put, St.get, constV, List.set, lenV, sliceOf, arrayOf, fieldsOf, normOf, norm, firstRegion, look, maskFrom, evBin, evIndexS, evLoad, evVar, evStore, evFieldAddr, nameOf, St.alloc, St.drop, killL, kill, killAll, killObs, killOb, upd, cells?, part, retag, retagL, putIn, refFree, refFreeL, isNew, isNewL, Ty.isAgg, splice, idsL, ids, idsLL, reach, depth, St.dropL, resultsV, resultV, ↓reduceIte, Nat.reduceBEq, Nat.reduceAdd, Nat.reduceSub, Nat.reduceMul, Nat.reduceEqDiff, Nat.reduceLeDiff, Nat.reduceLT, effOf, effMem, effStore, effCall, effVar, effLit, effMake, effApp, Eff.ap, lend, evLit, evMake, evNil, freeze, onto, dropO, elemsV, sized, evCmp, eqT, eqG, minV, evUn, evField, evExtract, evIndexA, evIndexV, evSlice, optInt, fillV, placeOf, thawed, del, isNilSlice, plain, plainL, cellsJ, junkOk, evLook, evMap, evEnter, effEnter, findV, mapOf, keyOk, evFrame, unframe, closed, fixed, sameEs, pickObs, putObs, wit, sameWit, Option.isSome_some, evNilCheck, St.with, setSlots, setObs, wantedD, seqOf, noRange, setAll, Array.size, te, einl, inls, efr]
  have hLn := hL ws.length (Nat.le_refl _)
  have hLt : (((L ws.length).toNat : Nat) : Int) = L ws.length := by omega
  have hqb : ∀ k : Nat, 0 ≤ q.getD k 0 ∧ q.getD k 0 + ((L ws.length).toNat : Nat) ≤ 3000 := fun k => by
    by_cases hk : k < ws.length
    · have g1 : ws[k]? = some ws[k] := List.getElem?_eq_getElem hk
      have b3 := tdiv_in (mul_in ht (hw ws[k] (List.getElem_mem _))).1 hS
      have e1 := hls k
      have e2 := hL k (by omega)
      have e3 := hL (k + 1) (by omega)
      rw [getD_some (hq k _ g1)] at e1 ⊢
      omega
    · rw [List.getD_eq_getElem?_getD, List.getElem?_eq_none (by omega)]
      show (0 : Int) ≤ 0 ∧ (0 : Int) + _ ≤ _
      omega
  generalize hr : loopAt _ _ _ _ _ _ = r; revert r
  refine loop_inv (ι := { p : Nat × List Int × List Int // Small p.1 p.2 ∧ giveN p.1 p.2 = giveN (L ws.length).toNat (q, r) ∧ p.2.1.length = ws.length }) (fun i => [(10, .int .i64 (i.1.1 : Int))]) (fun i => [(8, obI (i.1.2.1.map vI)), (9, obI (i.1.2.2.map vI))]) (fun i => i.1.1)
    ⟨((L ws.length).toNat, q, r), ⟨by dsimp only; omega, by dsimp only; omega, by dsimp only; omega, hqb⟩, rfl, by dsimp only; omega⟩ (by simp (maxSteps := 1000000) (implicitDefEqProofs := false) only [obI, hLt, ss, List.replicate, evOp, evPlain, evVal, evMem, St.eval, St.put, St.get, constV, List.set, lenV, sliceOf, arrayOf, fieldsOf, normOf, norm, firstRegion, look, maskFrom, evBin, evIndexS, evLoad, evVar, evStore, evFieldAddr, nameOf, St.alloc, St.drop, killL, kill, killAll, killObs, killOb, upd, cells?, part, retag, retagL, putIn, refFree, refFreeL, isNew, isNewL, Ty.isAgg, splice, idsL, ids, idsLL, reach, depth, St.dropL, resultsV, resultV, ↓reduceIte, Nat.reduceBEq, Nat.reduceAdd, Nat.reduceSub, Nat.reduceMul, Nat.reduceEqDiff, Nat.reduceLeDiff, Nat.reduceLT, effOf, effMem, effStore, effCall, effVar, effLit, effMake, effApp, Eff.ap, lend, evLit, evMake, evNil, freeze, onto, dropO, elemsV, sized, evCmp, eqT, eqG, minV, evUn, evField, evExtract, evIndexA, evIndexV, evSlice, optInt, fillV, placeOf, thawed, del, isNilSlice, plain, plainL, cellsJ, junkOk, evLook, evMap, evEnter, effEnter, findV, mapOf, keyOk, evFrame, unframe, closed, fixed, sameEs, pickObs, putObs, wit, sameWit, Option.isSome_some, evNilCheck, St.with, setSlots, setObs, wantedD, seqOf, noRange, setAll, Array.size, te, einl, inls, efr]) ?_
  rintro ⟨⟨n, o, e⟩, hsm, hg, hlo⟩
  dsimp only at hsm hg hlo ⊢
  cases n with
  | zero =>
    have hg' : o = (giveN (L ws.length).toNat (q, r)).1 := by rw [← hg]; rfl
    have e1 : (o.map vI).take ws.length = o.map vI := List.take_of_length_le (by simp; omega)
    rw [← hg']
    simp (maxSteps := 1000000) (implicitDefEqProofs := false) only [Int.natCast_zero, Int.lt_irrefl, obI, encSh, e1, hlo, Nat.le_refl, if_true, List.length_map, Try.ntmps79, Try.results79, efc79, fc79, ss, List.replicate, evOp, evPlain, evVal, evMem, St.eval, St.put, St.get, constV, List.set, lenV, sliceOf, arrayOf, fieldsOf, normOf, norm, firstRegion, look, maskFrom, evBin, evIndexS, evLoad, evVar, evStore, evFieldAddr, nameOf, St.alloc, St.drop, killL, kill, killAll, killObs, killOb, upd, cells?, part, retag, retagL, putIn, refFree, refFreeL, isNew, isNewL, Ty.isAgg, splice, idsL, ids, idsLL, reach, depth, St.dropL, resultsV, resultV, ↓reduceIte, Nat.reduceBEq, Nat.reduceAdd, Nat.reduceSub, Nat.reduceMul, Nat.reduceEqDiff, Nat.reduceLeDiff, Nat.reduceLT, effOf, effMem, effStore, effCall, effVar, effLit, effMake, effApp, Eff.ap, lend, evLit, evMake, evNil, freeze, onto, dropO, elemsV, sized, evCmp, eqT, eqG, minV, evUn, evField, evExtract, evIndexA, evIndexV, evSlice, optInt, fillV, placeOf, thawed, del, isNilSlice, plain, plainL, cellsJ, junkOk, evLook, evMap, evEnter, effEnter, findV, mapOf, keyOk, evFrame, unframe, closed, fixed, sameEs, pickObs, putObs, wit, sameWit, Option.isSome_some, evNilCheck, St.with, setSlots, setObs, wantedD, seqOf, noRange, setAll, Array.size, te, einl, inls, efr]
  | succ n =>
    have hn3 := hsm.2.2.2 0
    have q3 : (0 : Int) < ((n + 1 : Nat) : Int) := by omega
    have w5 : IntKind.i64.wrap (((n + 1 : Nat) : Int) - 1) = n := by rw [wrap_in (by omega)]; omega
    have le : e.length = ws.length := by rw [← hlo]; exact hsm.1.symm
    have hm0 : amax e 0 = 0 := rfl
    have hml : ∀ i, i < ws.length → amax e i < ws.length := fun i hi => by
      rcases Nat.eq_zero_or_pos i with h | h
      · subst h; rw [hm0]; omega
      · have := amax_lt e i h; omega
    have hms : ∀ i, amax e (i + 1) = if e.getD (amax e i) 0 < e.getD i 0 then i else amax e i := fun _ => rfl
    have hm1 := amax_one e
    have hst := small_step hsm
    have hgs : giveN (n + 1) (o, e) = giveN n (giveOne (o, e)) := rfl
    have hgo : giveOne (o, e) = (o.set (amax e ws.length) (o.getD (amax e ws.length) 0 + 1), e.set (amax e ws.length) (-1)) := by unfold giveOne; dsimp only; rw [le]
    have hgl := (give_len (s := (o, e))).1
    have hmn : amax e ws.length < ws.length := amax_lt e _ (by omega)
    simp (maxSteps := 1000000) (implicitDefEqProofs := false) only [q3, obI, le, List.length_map, ss, List.replicate, evOp, evPlain, evVal, evMem, St.eval, St.put, St.get, constV, List.set, lenV, sliceOf, arrayOf, fieldsOf, normOf, norm, firstRegion, look, maskFrom, evBin, evIndexS, evLoad, evVar, evStore, evFieldAddr, nameOf, St.alloc, St.drop, killL, kill, killAll, killObs, killOb, upd, cells?, part, retag, retagL, putIn, refFree, refFreeL, isNew, isNewL, Ty.isAgg, splice, idsL, ids, idsLL, reach, depth, St.dropL, resultsV, resultV, ↓reduceIte, Nat.reduceBEq, Nat.reduceAdd, Nat.reduceSub, Nat.reduceMul, Nat.reduceEqDiff, Nat.reduceLeDiff, Nat.reduceLT, effOf, effMem, effStore, effCall, effVar, effLit, effMake, effApp, Eff.ap, lend, evLit, evMake, evNil, freeze, onto, dropO, elemsV, sized, evCmp, eqT, eqG, minV, evUn, evField, evExtract, evIndexA, evIndexV, evSlice, optInt, fillV, placeOf, thawed, del, isNilSlice, plain, plainL, cellsJ, junkOk, evLook, evMap, evEnter, effEnter, findV, mapOf, keyOk, evFrame, unframe, closed, fixed, sameEs, pickObs, putObs, wit, sameWit, Option.isSome_some, evNilCheck, St.with, setSlots, setObs, wantedD, seqOf, noRange, setAll, Array.size, te, einl, inls, efr]
    generalize hr : loopAt _ _ _ _ _ _ = r; revert r
    refine loop_inv (ι := { i : Nat // 1 ≤ i ∧ i ≤ ws.length }) (fun i => [(12, .int .i64 (amax e i.1 : Nat)), (13, .int .i64 (i.1 : Nat))]) (fun _ => []) (fun i => ws.length - i.1) ⟨1, by omega, by omega⟩ (by simp (maxSteps := 1000000) (implicitDefEqProofs := false) only [hm1, Int.natCast_zero, Int.natCast_one, ss, List.replicate, evOp, evPlain, evVal, evMem, St.eval, St.put, St.get, constV, List.set, lenV, sliceOf, arrayOf, fieldsOf, normOf, norm, firstRegion, look, maskFrom, evBin, evIndexS, evLoad, evVar, evStore, evFieldAddr, nameOf, St.alloc, St.drop, killL, kill, killAll, killObs, killOb, upd, cells?, part, retag, retagL, putIn, refFree, refFreeL, isNew, isNewL, Ty.isAgg, splice, idsL, ids, idsLL, reach, depth, St.dropL, resultsV, resultV, ↓reduceIte, Nat.reduceBEq, Nat.reduceAdd, Nat.reduceSub, Nat.reduceMul, Nat.reduceEqDiff, Nat.reduceLeDiff, Nat.reduceLT, effOf, effMem, effStore, effCall, effVar, effLit, effMake, effApp, Eff.ap, lend, evLit, evMake, evNil, freeze, onto, dropO, elemsV, sized, evCmp, eqT, eqG, minV, evUn, evField, evExtract, evIndexA, evIndexV, evSlice, optInt, fillV, placeOf, thawed, del, isNilSlice, plain, plainL, cellsJ, junkOk, evLook, evMap, evEnter, effEnter, findV, mapOf, keyOk, evFrame, unframe, closed, fixed, sameEs, pickObs, putObs, wit, sameWit, Option.isSome_some, evNilCheck, St.with, setSlots, setObs, wantedD, seqOf, noRange, setAll, Array.size, te, einl, inls, efr]) ?_
    rintro ⟨i, hi1, hi2⟩
    dsimp only
    by_cases a1 : i < ws.length
    rotate_left
    · obtain rfl : i = ws.length := by omega
      have g1 := nats_of (s := o) (k := amax e ws.length) (by omega)
      have g2 := nats_of (s := e) (k := amax e ws.length) (by omega)
      have b1 := hsm.2.2.2 (amax e ws.length)
      dsimp only at b1
      have w6 : IntKind.i64.wrap (o.getD (amax e ws.length) 0 + 1) = o.getD (amax e ws.length) 0 + 1 := wrap_in (by omega)
      have a4 : ((amax e ws.length : Nat) : Int) < ws.length := by omega
      rw [hgs] at hg
      rw [hgo] at hg hst hgl
      clear hgs hgo b1 hms hml
      generalize o.getD (amax e ws.length) 0 = ok at *
      generalize e.getD (amax e ws.length) 0 = ek at *
      have e1 := set_map (s := o) (k := amax e ws.length) (x := ok + 1)
      have e2 := set_map (s := e) (k := amax e ws.length) (x := -1)
      generalize amax e ws.length = k at *
      simp (maxSteps := 1000000) (implicitDefEqProofs := false) only [Int.lt_irrefl, a4, g1, g2, w5, w6, e1, e2, hlo, le, vI, Int.natCast_nonneg, Int.toNat_natCast, List.getElem?_map, List.length_map, ss, List.replicate, evOp, evPlain, evVal, evMem, St.eval, St.put, St.get, constV, List.set, lenV, sliceOf, arrayOf, fieldsOf, normOf, norm, firstRegion, look, maskFrom, evBin, evIndexS, evLoad, evVar, evStore, evFieldAddr, nameOf, St.alloc, St.drop, killL, kill, killAll, killObs, killOb, upd, cells?, part, retag, retagL, putIn, refFree, refFreeL, isNew, isNewL, Ty.isAgg, splice, idsL, ids, idsLL, reach, depth, St.dropL, resultsV, resultV, ↓reduceIte, Nat.reduceBEq, Nat.reduceAdd, Nat.reduceSub, Nat.reduceMul, Nat.reduceEqDiff, Nat.reduceLeDiff, Nat.reduceLT, effOf, effMem, effStore, effCall, effVar, effLit, effMake, effApp, Eff.ap, lend, evLit, evMake, evNil, freeze, onto, dropO, elemsV, sized, evCmp, eqT, eqG, minV, evUn, evField, evExtract, evIndexA, evIndexV, evSlice, optInt, fillV, placeOf, thawed, del, isNilSlice, plain, plainL, cellsJ, junkOk, evLook, evMap, evEnter, effEnter, findV, mapOf, keyOk, evFrame, unframe, closed, fixed, sameEs, pickObs, putObs, wit, sameWit, Option.isSome_some, evNilCheck, St.with, setSlots, setObs, wantedD, seqOf, noRange, setAll, Array.size, te, einl, inls, efr]
      dsimp only at hgl
      exact ⟨⟨(n, o.set k (ok + 1), e.set k (-1)), hst, hg, by dsimp only; omega⟩, rfl, by dsimp only; omega⟩
    · have a2 : (i : Int) < ws.length := by omega
      have a3 : IntKind.i64.wrap ((i : Int) + 1) = ((i + 1 : Nat) : Int) := by rw [wrap_in (by omega)]; omega
      have g1 := nats_of (s := e) (k := amax e i) (by have := hml i a1; omega)
      have g2 := nats_of (s := e) (k := i) (by omega)
      have a4 : ((amax e i : Nat) : Int) < ws.length := by have := hml i a1; omega
      have hmi := hms i
      generalize e.getD (amax e i) 0 = x1 at *
      generalize e.getD i 0 = x2 at *
      by_cases hlt : x1 < x2
      · rw [if_pos hlt] at hmi
        simp (maxSteps := 1000000) (implicitDefEqProofs := false) only [a1, a2, a3, a4, g1, g2, hlt, le, vI, evRegion_st hok, Int.natCast_nonneg, Int.toNat_natCast, List.getElem?_map, List.length_map, ss, List.replicate, evOp, evPlain, evVal, evMem, St.eval, St.put, St.get, constV, List.set, lenV, sliceOf, arrayOf, fieldsOf, normOf, norm, firstRegion, look, maskFrom, evBin, evIndexS, evLoad, evVar, evStore, evFieldAddr, nameOf, St.alloc, St.drop, killL, kill, killAll, killObs, killOb, upd, cells?, part, retag, retagL, putIn, refFree, refFreeL, isNew, isNewL, Ty.isAgg, splice, idsL, ids, idsLL, reach, depth, St.dropL, resultsV, resultV, ↓reduceIte, Nat.reduceBEq, Nat.reduceAdd, Nat.reduceSub, Nat.reduceMul, Nat.reduceEqDiff, Nat.reduceLeDiff, Nat.reduceLT, effOf, effMem, effStore, effCall, effVar, effLit, effMake, effApp, Eff.ap, lend, evLit, evMake, evNil, freeze, onto, dropO, elemsV, sized, evCmp, eqT, eqG, minV, evUn, evField, evExtract, evIndexA, evIndexV, evSlice, optInt, fillV, placeOf, thawed, del, isNilSlice, plain, plainL, cellsJ, junkOk, evLook, evMap, evEnter, effEnter, findV, mapOf, keyOk, evFrame, unframe, closed, fixed, sameEs, pickObs, putObs, wit, sameWit, Option.isSome_some, evNilCheck, St.with, setSlots, setObs, wantedD, seqOf, noRange, setAll, Array.size, te, einl, inls, efr]
        exact ⟨⟨i + 1, by omega, by omega⟩, by dsimp only; rw [hmi], by dsimp only; omega⟩
      · rw [if_neg hlt] at hmi
        simp (maxSteps := 1000000) (implicitDefEqProofs := false) only [a1, a2, a3, a4, g1, g2, hlt, le, vI, evRegion_st hok, Int.natCast_nonneg, Int.toNat_natCast, List.getElem?_map, List.length_map, ss, List.replicate, evOp, evPlain, evVal, evMem, St.eval, St.put, St.get, constV, List.set, lenV, sliceOf, arrayOf, fieldsOf, normOf, norm, firstRegion, look, maskFrom, evBin, evIndexS, evLoad, evVar, evStore, evFieldAddr, nameOf, St.alloc, St.drop, killL, kill, killAll, killObs, killOb, upd, cells?, part, retag, retagL, putIn, refFree, refFreeL, isNew, isNewL, Ty.isAgg, splice, idsL, ids, idsLL, reach, depth, St.dropL, resultsV, resultV, ↓reduceIte, Nat.reduceBEq, Nat.reduceAdd, Nat.reduceSub, Nat.reduceMul, Nat.reduceEqDiff, Nat.reduceLeDiff, Nat.reduceLT, effOf, effMem, effStore, effCall, effVar, effLit, effMake, effApp, Eff.ap, lend, evLit, evMake, evNil, freeze, onto, dropO, elemsV, sized, evCmp, eqT, eqG, minV, evUn, evField, evExtract, evIndexA, evIndexV, evSlice, optInt, fillV, placeOf, thawed, del, isNilSlice, plain, plainL, cellsJ, junkOk, evLook, evMap, evEnter, effEnter, findV, mapOf, keyOk, evFrame, unframe, closed, fixed, sameEs, pickObs, putObs, wit, sameWit, Option.isSome_some, evNilCheck, St.with, setSlots, setObs, wantedD, seqOf, noRange, setAll, Array.size, te, einl, inls, efr]
        exact ⟨⟨i + 1, by omega, by omega⟩, by dsimp only; rw [hmi], by dsimp only; omega⟩
end Go.AM.E
