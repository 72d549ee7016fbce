import Derived.Test.YtdipdaajicceoaaAU
import Derived.Test.YtdipdaajicceoaaAS
import Derived.Test.YtdipdaajicceoaaAmDynB
set_option linter.unusedSimpArgs false

namespace Go.AM.A
open Go Go.Proofs

set_option maxHeartbeats 4000000 in
theorem c57 (xs : List Run) (hv : validate xs = 0) : (orcω E X0).call 57 [.sl false (xs.map encRun)] = some (.tup [.sl true ((expand xs).map encMk), .bool true]) := by
  refine call_of rfl fn57 rfl ?_
  obtain ⟨v1, v2, v3⟩ := valid_okay hv
  have k1 := c21 false xs (by omega)
  have e1 := expand_len v1
  unfold lengthM at k1
  rw [if_pos hv, ln_total v1, ← e1] at k1
  simp only [encLen] at k1
  have k2 := fun p => c33 xs p (by omega)
  simp (maxSteps := 1000000) (implicitDefEqProofs := false) only [Try.ntmps57, Try.results57, efc57, fc57, k1, bne_self_eq_false, ss, List.replicate, evOp, evPlain, evVal, evMem, St.eval, St.put, St.get, constV, List.set, lenV, sliceOf, arrayOf, fieldsOf, normOf, norm, firstRegion, look, maskFrom, evBin, evIndexS, evLoad, evVar, evStore, evFieldAddr, nameOf, St.alloc, St.drop, killL, kill, killAll, killObs, killOb, upd, cells?, part, retag, retagL, putIn, refFree, refFreeL, isNew, isNewL, Ty.isAgg, splice, idsL, ids, idsLL, reach, depth, St.dropL, resultsV, resultV, ↓reduceIte, Nat.reduceBEq, Nat.reduceAdd, Nat.reduceSub, Nat.reduceMul, Nat.reduceEqDiff, Nat.reduceLeDiff, Nat.reduceLT, effOf, effMem, effStore, effCall, effVar, effLit, effMake, effApp, Eff.ap, lend, evLit, evMake, evNil, freeze, onto, dropO, elemsV, sized, evCmp, eqT, eqG, minV, evUn, evField, evExtract, evIndexA, evIndexV, evSlice, optInt, fillV, placeOf, thawed, del, isNilSlice, plain, plainL, cellsJ, junkOk, St.with, setSlots, setObs, wantedD, seqOf, noRange, setAll, Array.size, te, einl, inls]
  generalize hr : loopAt _ _ _ _ _ _ = r; revert r
  refine loop_inv (ι := { i : Nat // i ≤ (expand xs).length }) (fun i => [(6, .own 6 0 i.1), (7, .int .i64 i.1)]) (fun i => [(6, { es := 3, flat := true, t := true, app := true, elems := ((expand xs).take i.1).map encMk })]) (fun i => (expand xs).length - i.1) ⟨0, by omega⟩ (by simp (maxSteps := 1000000) (implicitDefEqProofs := false) only [List.take_zero, List.map_nil, ss, List.replicate, evOp, evPlain, evVal, evMem, St.eval, St.put, St.get, constV, List.set, lenV, sliceOf, arrayOf, fieldsOf, normOf, norm, firstRegion, look, maskFrom, evBin, evIndexS, evLoad, evVar, evStore, evFieldAddr, nameOf, St.alloc, St.drop, killL, kill, killAll, killObs, killOb, upd, cells?, part, retag, retagL, putIn, refFree, refFreeL, isNew, isNewL, Ty.isAgg, splice, idsL, ids, idsLL, reach, depth, St.dropL, resultsV, resultV, ↓reduceIte, Nat.reduceBEq, Nat.reduceAdd, Nat.reduceSub, Nat.reduceMul, Nat.reduceEqDiff, Nat.reduceLeDiff, Nat.reduceLT, effOf, effMem, effStore, effCall, effVar, effLit, effMake, effApp, Eff.ap, lend, evLit, evMake, evNil, freeze, onto, dropO, elemsV, sized, evCmp, eqT, eqG, minV, evUn, evField, evExtract, evIndexA, evIndexV, evSlice, optInt, fillV, placeOf, thawed, del, isNilSlice, plain, plainL, cellsJ, junkOk, St.with, setSlots, setObs, wantedD, seqOf, noRange, setAll, Array.size, te, einl, inls]) ?_
  rintro ⟨i, hi⟩
  dsimp only
  have w1 : IntKind.i64.wrap ((i : Int) + 1) = ((i + 1 : Nat) : Int) := by rw [wrap_in (by omega)]; omega
  by_cases hlt : (i : Int) < ((expand xs).length : Int)
  · have g0 : i < (expand xs).length := by omega
    have g1 : (expand xs)[i]? = some (expand xs)[i] := List.getElem?_eq_getElem g0
    generalize (expand xs)[i] = m at *
    have k3 := k2 i
    rw [at_of hv (by omega) (by rw [Int.toNat_natCast]; exact g1)] at k3
    simp only [encAt] at k3
    have hlen : (((expand xs).take i).map encMk).length = i := by rw [List.length_map, List.length_take]; omega
    have hroom : roomy (i + 1) 24 = true := by simp [roomy]; omega
    have hbig : i + 1 ≤ 4294967296 := by omega
    have e2 : ((expand xs).take i).map encMk ++ [.agg [.int .i64 m.thick, .int .i64 m.shade, .int .i64 m.flaw]] = ((expand xs).take (i + 1)).map encMk := by
      rw [List.take_add_one, g1, List.map_append]; rfl
    simp only [encMk] at k3
    simp (maxSteps := 1000000) (implicitDefEqProofs := false) only [hlt, w1, k3, hlen, hroom, hbig, e2, encMk, bne_self_eq_false, ss, List.replicate, evOp, evPlain, evVal, evMem, St.eval, St.put, St.get, constV, List.set, lenV, sliceOf, arrayOf, fieldsOf, normOf, norm, firstRegion, look, maskFrom, evBin, evIndexS, evLoad, evVar, evStore, evFieldAddr, nameOf, St.alloc, St.drop, killL, kill, killAll, killObs, killOb, upd, cells?, part, retag, retagL, putIn, refFree, refFreeL, isNew, isNewL, Ty.isAgg, splice, idsL, ids, idsLL, reach, depth, St.dropL, resultsV, resultV, ↓reduceIte, Nat.reduceBEq, Nat.reduceAdd, Nat.reduceSub, Nat.reduceMul, Nat.reduceEqDiff, Nat.reduceLeDiff, Nat.reduceLT, effOf, effMem, effStore, effCall, effVar, effLit, effMake, effApp, Eff.ap, lend, evLit, evMake, evNil, freeze, onto, dropO, elemsV, sized, evCmp, eqT, eqG, minV, evUn, evField, evExtract, evIndexA, evIndexV, evSlice, optInt, fillV, placeOf, thawed, del, isNilSlice, plain, plainL, cellsJ, junkOk, St.with, setSlots, setObs, wantedD, seqOf, noRange, setAll, Array.size, te, einl, inls]
    exact ⟨⟨i + 1, by omega⟩, rfl, by dsimp only; omega⟩
  · obtain rfl : i = (expand xs).length := by omega
    simp (maxSteps := 1000000) (implicitDefEqProofs := false) only [hlt, List.take_length, Try.ntmps57, Try.results57, efc57, fc57, ss, List.replicate, evOp, evPlain, evVal, evMem, St.eval, St.put, St.get, constV, List.set, lenV, sliceOf, arrayOf, fieldsOf, normOf, norm, firstRegion, look, maskFrom, evBin, evIndexS, evLoad, evVar, evStore, evFieldAddr, nameOf, St.alloc, St.drop, killL, kill, killAll, killObs, killOb, upd, cells?, part, retag, retagL, putIn, refFree, refFreeL, isNew, isNewL, Ty.isAgg, splice, idsL, ids, idsLL, reach, depth, St.dropL, resultsV, resultV, ↓reduceIte, Nat.reduceBEq, Nat.reduceAdd, Nat.reduceSub, Nat.reduceMul, Nat.reduceEqDiff, Nat.reduceLeDiff, Nat.reduceLT, effOf, effMem, effStore, effCall, effVar, effLit, effMake, effApp, Eff.ap, lend, evLit, evMake, evNil, freeze, onto, dropO, elemsV, sized, evCmp, eqT, eqG, minV, evUn, evField, evExtract, evIndexA, evIndexV, evSlice, optInt, fillV, placeOf, thawed, del, isNilSlice, plain, plainL, cellsJ, junkOk, St.with, setSlots, setObs, wantedD, seqOf, noRange, setAll, Array.size, te, einl, inls]

theorem normal_get : ∀ {js : List Run} {i : Nat} {r s : Run}, Normal js → js[i]? = some r → js[i + 1]? = some s → r.mk' ≠ s.mk'
  | [], i, r, s, _, h, _ => by simp at h
  | [x], i, r, s, _, h1, h2 => by simp at h2
  | x :: y :: js, 0, r, s, hn, h1, h2 => by
    simp at h1 h2; subst h1; subst h2
    exact hn.1
  | x :: y :: js, i + 1, r, s, hn, h1, h2 => normal_get (js := y :: js) (i := i) hn.2 (by simpa using h1) (by simpa using h2)

theorem okT58 : okCode (Try.f58.body.getD .skip) = true := by decide +kernel

set_option maxHeartbeats 4000000 in
theorem c58 (js : List Run) (hv : validate js = 0) (hn : Normal js) : (orcω E X0).call 58 [.sl false (js.map encRun), .sl false ((expand js).map encMk)] = some (.bool true) := by
  refine call_of rfl fn58 rfl ?_
  have hok := okT58
  simp only [Try.f58, Option.getD_some, okCode, Bool.and_eq_true, Bool.and_true, Bool.true_and] at hok
  try simp only [and_assoc] at hok
  obtain ⟨hk1, hk2⟩ := hok
  obtain ⟨v1, v2, v3⟩ := valid_okay hv
  have k1 := c57 js hv
  have e1 := expand_len v1
  simp (maxSteps := 1000000) (implicitDefEqProofs := false) only [Try.ntmps58, Try.results58, efc58, fc58, k1, bne_self_eq_false, ss, List.replicate, evOp, evPlain, evVal, evMem, St.eval, St.put, St.get, constV, List.set, lenV, sliceOf, arrayOf, fieldsOf, normOf, norm, firstRegion, look, maskFrom, evBin, evIndexS, evLoad, evVar, evStore, evFieldAddr, nameOf, St.alloc, St.drop, killL, kill, killAll, killObs, killOb, upd, cells?, part, retag, retagL, putIn, refFree, refFreeL, isNew, isNewL, Ty.isAgg, splice, idsL, ids, idsLL, reach, depth, St.dropL, resultsV, resultV, ↓reduceIte, Nat.reduceBEq, Nat.reduceAdd, Nat.reduceSub, Nat.reduceMul, Nat.reduceEqDiff, Nat.reduceLeDiff, Nat.reduceLT, effOf, effMem, effStore, effCall, effVar, effLit, effMake, effApp, Eff.ap, lend, evLit, evMake, evNil, freeze, onto, dropO, elemsV, sized, evCmp, eqT, eqG, minV, evUn, evField, evExtract, evIndexA, evIndexV, evSlice, optInt, fillV, placeOf, thawed, del, isNilSlice, plain, plainL, cellsJ, junkOk, St.with, setSlots, setObs, wantedD, seqOf, noRange, setAll, Array.size, te, einl, inls]
  generalize hr : loopAt _ _ _ _ _ _ = r; revert r
  refine loop_list (expand js) (fun pre _ => [(7, .int .i64 pre.length)]) (fun _ _ => []) (fun _ (_ : Unit) => True) () (by omega) (by simp (maxSteps := 1000000) (implicitDefEqProofs := false) only [ss, List.replicate, evOp, evPlain, evVal, evMem, St.eval, St.put, St.get, constV, List.set, lenV, sliceOf, arrayOf, fieldsOf, normOf, norm, firstRegion, look, maskFrom, evBin, evIndexS, evLoad, evVar, evStore, evFieldAddr, nameOf, St.alloc, St.drop, killL, kill, killAll, killObs, killOb, upd, cells?, part, retag, retagL, putIn, refFree, refFreeL, isNew, isNewL, Ty.isAgg, splice, idsL, ids, idsLL, reach, depth, St.dropL, resultsV, resultV, ↓reduceIte, Nat.reduceBEq, Nat.reduceAdd, Nat.reduceSub, Nat.reduceMul, Nat.reduceEqDiff, Nat.reduceLeDiff, Nat.reduceLT, effOf, effMem, effStore, effCall, effVar, effLit, effMake, effApp, Eff.ap, lend, evLit, evMake, evNil, freeze, onto, dropO, elemsV, sized, evCmp, eqT, eqG, minV, evUn, evField, evExtract, evIndexA, evIndexV, evSlice, optInt, fillV, placeOf, thawed, del, isNilSlice, plain, plainL, cellsJ, junkOk, St.with, setSlots, setObs, wantedD, seqOf, noRange, setAll, Array.size, te, einl, inls]) trivial (fun _ _ => ?_) (fun pre m post _ hp _ g1 g2 g3 g4 => ?_)
  · simp (maxSteps := 1000000) (implicitDefEqProofs := false) only [Int.lt_irrefl, evRegion_st hk1, evRegion_st hk2, ss, List.replicate, evOp, evPlain, evVal, evMem, St.eval, St.put, St.get, constV, List.set, lenV, sliceOf, arrayOf, fieldsOf, normOf, norm, firstRegion, look, maskFrom, evBin, evIndexS, evLoad, evVar, evStore, evFieldAddr, nameOf, St.alloc, St.drop, killL, kill, killAll, killObs, killOb, upd, cells?, part, retag, retagL, putIn, refFree, refFreeL, isNew, isNewL, Ty.isAgg, splice, idsL, ids, idsLL, reach, depth, St.dropL, resultsV, resultV, ↓reduceIte, Nat.reduceBEq, Nat.reduceAdd, Nat.reduceSub, Nat.reduceMul, Nat.reduceEqDiff, Nat.reduceLeDiff, Nat.reduceLT, effOf, effMem, effStore, effCall, effVar, effLit, effMake, effApp, Eff.ap, lend, evLit, evMake, evNil, freeze, onto, dropO, elemsV, sized, evCmp, eqT, eqG, minV, evUn, evField, evExtract, evIndexA, evIndexV, evSlice, optInt, fillV, placeOf, thawed, del, isNilSlice, plain, plainL, cellsJ, junkOk, St.with, setSlots, setObs, wantedD, seqOf, noRange, setAll, Array.size, te, einl, inls]
    generalize hr : loopAt _ _ _ _ _ _ = r; revert r
    refine loop_inv (ι := { i : Nat // 1 ≤ i ∧ (i ≤ js.length ∨ i = 1) }) (fun i => [(8, .int .i64 i.1)]) (fun i => []) (fun i => js.length + 1 - i.1) ⟨1, by omega, by omega⟩ (by simp (maxSteps := 1000000) (implicitDefEqProofs := false) only [Int.natCast_one, ss, List.replicate, evOp, evPlain, evVal, evMem, St.eval, St.put, St.get, constV, List.set, lenV, sliceOf, arrayOf, fieldsOf, normOf, norm, firstRegion, look, maskFrom, evBin, evIndexS, evLoad, evVar, evStore, evFieldAddr, nameOf, St.alloc, St.drop, killL, kill, killAll, killObs, killOb, upd, cells?, part, retag, retagL, putIn, refFree, refFreeL, isNew, isNewL, Ty.isAgg, splice, idsL, ids, idsLL, reach, depth, St.dropL, resultsV, resultV, ↓reduceIte, Nat.reduceBEq, Nat.reduceAdd, Nat.reduceSub, Nat.reduceMul, Nat.reduceEqDiff, Nat.reduceLeDiff, Nat.reduceLT, effOf, effMem, effStore, effCall, effVar, effLit, effMake, effApp, Eff.ap, lend, evLit, evMake, evNil, freeze, onto, dropO, elemsV, sized, evCmp, eqT, eqG, minV, evUn, evField, evExtract, evIndexA, evIndexV, evSlice, optInt, fillV, placeOf, thawed, del, isNilSlice, plain, plainL, cellsJ, junkOk, St.with, setSlots, setObs, wantedD, seqOf, noRange, setAll, Array.size, te, einl, inls]; try rfl) ?_
    rintro ⟨i, hi, hi2⟩
    dsimp only
    have w1 : IntKind.i64.wrap ((i : Int) + 1) = ((i + 1 : Nat) : Int) := by rw [wrap_in (by omega)]; omega
    by_cases hlt : (i : Int) < (js.length : Int)
    · have w2 : IntKind.i64.wrap ((i : Int) - 1) = ((i - 1 : Nat) : Int) := by rw [wrap_in (by omega)]; omega
      have b1 : js[i]? = some js[i] := List.getElem?_eq_getElem (by omega)
      have b2 : js[i - 1]? = some js[i - 1] := List.getElem?_eq_getElem (by omega)
      have hne := normal_get (i := i - 1) hn b2 (by rw [show i - 1 + 1 = i by omega]; exact b1)
      have c1 := mk_eq js[i] js[i - 1]
      rw [decide_eq_false (fun h => hne h.symm)] at c1
      generalize js[i] = r at *
      generalize js[i - 1] = s at *
      simp (maxSteps := 1000000) (implicitDefEqProofs := false) only [hlt, w1, w2, b1, b2, c1, encRun, List.getElem?_map, Int.natCast_nonneg, Int.toNat_natCast, evRegion_st hk1, evRegion_st hk2, ss, List.replicate, evOp, evPlain, evVal, evMem, St.eval, St.put, St.get, constV, List.set, lenV, sliceOf, arrayOf, fieldsOf, normOf, norm, firstRegion, look, maskFrom, evBin, evIndexS, evLoad, evVar, evStore, evFieldAddr, nameOf, St.alloc, St.drop, killL, kill, killAll, killObs, killOb, upd, cells?, part, retag, retagL, putIn, refFree, refFreeL, isNew, isNewL, Ty.isAgg, splice, idsL, ids, idsLL, reach, depth, St.dropL, resultsV, resultV, ↓reduceIte, Nat.reduceBEq, Nat.reduceAdd, Nat.reduceSub, Nat.reduceMul, Nat.reduceEqDiff, Nat.reduceLeDiff, Nat.reduceLT, effOf, effMem, effStore, effCall, effVar, effLit, effMake, effApp, Eff.ap, lend, evLit, evMake, evNil, freeze, onto, dropO, elemsV, sized, evCmp, eqT, eqG, minV, evUn, evField, evExtract, evIndexA, evIndexV, evSlice, optInt, fillV, placeOf, thawed, del, isNilSlice, plain, plainL, cellsJ, junkOk, St.with, setSlots, setObs, wantedD, seqOf, noRange, setAll, Array.size, te, einl, inls]
      exact ⟨⟨i + 1, by omega, by omega⟩, rfl, by dsimp only; omega⟩
    · simp (maxSteps := 1000000) (implicitDefEqProofs := false) only [hlt, Try.ntmps58, Try.results58, efc58, fc58, ss, List.replicate, evOp, evPlain, evVal, evMem, St.eval, St.put, St.get, constV, List.set, lenV, sliceOf, arrayOf, fieldsOf, normOf, norm, firstRegion, look, maskFrom, evBin, evIndexS, evLoad, evVar, evStore, evFieldAddr, nameOf, St.alloc, St.drop, killL, kill, killAll, killObs, killOb, upd, cells?, part, retag, retagL, putIn, refFree, refFreeL, isNew, isNewL, Ty.isAgg, splice, idsL, ids, idsLL, reach, depth, St.dropL, resultsV, resultV, ↓reduceIte, Nat.reduceBEq, Nat.reduceAdd, Nat.reduceSub, Nat.reduceMul, Nat.reduceEqDiff, Nat.reduceLeDiff, Nat.reduceLT, effOf, effMem, effStore, effCall, effVar, effLit, effMake, effApp, Eff.ap, lend, evLit, evMake, evNil, freeze, onto, dropO, elemsV, sized, evCmp, eqT, eqG, minV, evUn, evField, evExtract, evIndexA, evIndexV, evSlice, optInt, fillV, placeOf, thawed, del, isNilSlice, plain, plainL, cellsJ, junkOk, St.with, setSlots, setObs, wantedD, seqOf, noRange, setAll, Array.size, te, einl, inls]
  · have c1 : (m.thick != m.thick || (m.shade != m.shade || m.flaw != m.flaw)) = false := by simp
    simp (maxSteps := 1000000) (implicitDefEqProofs := false) only [g1, g2, g3, g4, encMk, c1, bne_self_eq_false, beq_self_eq_true, Bool.true_and, Bool.not_true, List.getElem?_map, Int.natCast_nonneg, Int.toNat_natCast, evRegion_st hk1, evRegion_st hk2, ss, List.replicate, evOp, evPlain, evVal, evMem, St.eval, St.put, St.get, constV, List.set, lenV, sliceOf, arrayOf, fieldsOf, normOf, norm, firstRegion, look, maskFrom, evBin, evIndexS, evLoad, evVar, evStore, evFieldAddr, nameOf, St.alloc, St.drop, killL, kill, killAll, killObs, killOb, upd, cells?, part, retag, retagL, putIn, refFree, refFreeL, isNew, isNewL, Ty.isAgg, splice, idsL, ids, idsLL, reach, depth, St.dropL, resultsV, resultV, ↓reduceIte, Nat.reduceBEq, Nat.reduceAdd, Nat.reduceSub, Nat.reduceMul, Nat.reduceEqDiff, Nat.reduceLeDiff, Nat.reduceLT, effOf, effMem, effStore, effCall, effVar, effLit, effMake, effApp, Eff.ap, lend, evLit, evMake, evNil, freeze, onto, dropO, elemsV, sized, evCmp, eqT, eqG, minV, evUn, evField, evExtract, evIndexA, evIndexV, evSlice, optInt, fillV, placeOf, thawed, del, isNilSlice, plain, plainL, cellsJ, junkOk, St.with, setSlots, setObs, wantedD, seqOf, noRange, setAll, Array.size, te, einl, inls]
    (first | exact ⟨(), trivial⟩ | refine ⟨(), ?_, trivial⟩ | skip)

end Go.AM.A
