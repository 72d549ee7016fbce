import Derived.Test.YtdipdaajicceoaaABandG
set_option linter.unusedSimpArgs false
namespace Go.AM.A
open Go Go.Proofs

def isYes : Option V → Bool
  | some (.bool true) => true
  | _ => false

theorem isYes_eq {r : Option V} (h : isYes r = true) : r = some (.bool true) := by
  unfold isYes at h
  split at h
  · rfl
  · cases h

theorem known_yes : isYes ((orc E X0 60).call 17 []) = true := by decide +kernel

theorem c17 : (orcω E X0).call 17 [] = some (.bool true) := (orcω_le 60).call _ _ _ (isYes_eq known_yes)

theorem normal_le (rs : List Run) : (normal rs).1.length ≤ rs.length := by
  unfold normal finished
  split
  · split
    · exact Nat.zero_le _
    · exact joined_le rs
  · exact Nat.zero_le _

theorem c3 (rs : List Run) : (orcω E X0).call 3 [.sl false (rs.map encRun)] = some (.bool true) := by
  refine call_of rfl fn3 rfl ?_
  have h16 := c16 false rs
  by_cases hlong : (100 : Int) < rs.length
  · simp only [hlong, decide_true] at h16
    simp only [Try.ntmps3, Try.results3, efc3, fc3, h16, c17, Option.getD_some, List.replicate, List.cons_append, List.nil_append, den_seq, den_region, den_block, den_cond, den_skip, den_ret, den_exit, evOps, evOp, evPlain, evVal, evMem, wantedV, St.eval, St.put, St.get, constV, List.set, List.getD_cons_zero, List.getD_cons_succ, Bool.false_eq_true, if_false, List.contains_nil, Bool.false_and, normally_some, andThen_normal, andThen_exit, andThen_ret, atBlock_normal, atBlock_exit, atBlock_ret, lenV, sliceOf, arrayOf, fieldsOf, onBool_true, onBool_false, after_normal, after_exit, after_ret, normOf, norm, firstRegion, look, maskFrom, evBin, evIndexS, evLoad, evVar, evStore, evFieldAddr, nameOf, St.alloc, St.drop, killL, kill, killAll, killObs, killOb, upd, cells?, part, retag, retagL, putIn, refFree, refFreeL, isNew, isNewL, Ty.isAgg, splice, idsL, ids, idsLL, reach, depth, St.dropL, outOfCall_some, atEnd_normal, atEnd_ret, resultsV, resultV, allM_nil, allM_cons, resolve_int, resolve_bool, resolve_lit, resolve_sl, resolve_fp, resolve_emp, resolve_agg, resolve_tup, resolve_clo, resolve_own, Option.map_some, Option.map_none, List.length_cons, List.length_nil, List.length_map, ↓reduceIte, List.contains_cons, Bool.or_false, Bool.false_or, Bool.or_true, Bool.true_or, Nat.reduceBEq, beq_self_eq_true, List.map_cons, List.map_nil, List.filter_cons, List.filter_nil, List.flatMap_cons, List.flatMap_nil, Bool.not_true, Bool.not_false, and_self, and_true, true_and, List.getElem?_cons_zero, List.getElem?_cons_succ, List.getElem?_nil, List.drop_succ_cons, List.drop_zero, List.take_succ_cons, List.take_zero, List.drop_nil, List.take_nil, List.append_nil, Nat.reduceAdd, Nat.reduceSub, Nat.reduceMul, Nat.reduceEqDiff, Nat.reduceLeDiff, Nat.le_refl, Option.getD_none, Bool.and_true, Bool.true_and, Bool.and_false, Bool.and_self, Nat.lt_irrefl, Nat.reduceLT, Nat.zero_add, evRegion_still, evE, effOf, effMem, effStore, effCall, effVar, effLit, effMake, effApp, Eff.ap, evCall, lend, evAppend, evLit, evMake, evNil, freeze, onto, dropO, elemsV, sized, evCmp, eqT, eqG, minV, evUn, evField, evExtract, evIndexA, evIndexV, evSlice, optInt, fillV, placeOf, thawed, del, List.contains_append, Option.bind_none, Option.bind_some, Bool.and_eq_true, decide_true, decide_false, Bool.not_eq_true', List.take_length, List.range_succ, List.range_zero, Option.some.injEq, ne_eq, not_false_eq_true, not_true_eq_false, List.all_cons, List.all_nil, isNilSlice, List.getElem?_toArray, beqT, beqF, Bool.cond_true, Bool.cond_false, or_self, true_or, or_true, or_false, false_or, plain, plainL, ask_true, ask_false, pickV_true, pickV_false, resolve_ptr, cellsJ, junkOk, ty1, ti1, ty2, ti2, ty3, ti3, ty4, ti4, ty22, ti22, ty26, ti26, ty38, ti38, ty41, ti41, ty53, ti53, ty54, ti54, ty60, ti60, ty63, ti63, ty68, ti68, ty69, ti69, ty80, ti80, ty81, ti81, ty87, ti87, ty88, ti88, ty90, ti90, ty91, ti91, ty92, ti92, ty94, ti94, ty95, ti95, einl, inls]
  simp only [hlong, decide_false] at h16
  have hn : rs.length ≤ 1000000000 := by omega
  have h18 := c18 false rs hn
  have h19 := c19 false rs hn
  have h20 := c20 false rs hn
  have h21 := c21 false rs hn
  have h22 := c22 false rs hn
  have h23 := c23 false rs hn
  have h24 := c24 false rs hn
  have h25 := c25 false false rs rs hn
  have hle := normal_le rs
  generalize normal rs = N at *
  obtain ⟨ns, e⟩ := N
  dsimp only at hle
  have h25' := c25 false false ns ns (by omega)
  have h26 := fun b outer objs => c26 b 20 outer objs ns (by omega) false
  generalize lengthM rs = M at *
  obtain ⟨l, el⟩ := M
  simp only [decide_true] at h25 h25'
  simp only [encRes, encLen] at h19 h20 h21 h22
  simp only [Try.ntmps3, Try.results3, efc3, fc3, h16, h18, h19, h20, h21, h22, h23, h24, h25, h25', h26, c17, take_map, refFree_runs, plain_runs, sized_runs, Option.getD_some, List.replicate, List.cons_append, List.nil_append, den_seq, den_region, den_block, den_cond, den_skip, den_ret, den_exit, evOps, evOp, evPlain, evVal, evMem, wantedV, St.eval, St.put, St.get, constV, List.set, List.getD_cons_zero, List.getD_cons_succ, Bool.false_eq_true, if_false, List.contains_nil, Bool.false_and, normally_some, andThen_normal, andThen_exit, andThen_ret, atBlock_normal, atBlock_exit, atBlock_ret, lenV, sliceOf, arrayOf, fieldsOf, onBool_true, onBool_false, after_normal, after_exit, after_ret, normOf, norm, firstRegion, look, maskFrom, evBin, evIndexS, evLoad, evVar, evStore, evFieldAddr, nameOf, St.alloc, St.drop, killL, kill, killAll, killObs, killOb, upd, cells?, part, retag, retagL, putIn, refFree, refFreeL, isNew, isNewL, Ty.isAgg, splice, idsL, ids, idsLL, reach, depth, St.dropL, outOfCall_some, atEnd_normal, atEnd_ret, resultsV, resultV, allM_nil, allM_cons, resolve_int, resolve_bool, resolve_lit, resolve_sl, resolve_fp, resolve_emp, resolve_agg, resolve_tup, resolve_clo, resolve_own, Option.map_some, Option.map_none, List.length_cons, List.length_nil, List.length_map, ↓reduceIte, List.contains_cons, Bool.or_false, Bool.false_or, Bool.or_true, Bool.true_or, Nat.reduceBEq, beq_self_eq_true, List.map_cons, List.map_nil, List.filter_cons, List.filter_nil, List.flatMap_cons, List.flatMap_nil, Bool.not_true, Bool.not_false, and_self, and_true, true_and, List.getElem?_cons_zero, List.getElem?_cons_succ, List.getElem?_nil, List.drop_succ_cons, List.drop_zero, List.take_succ_cons, List.take_zero, List.drop_nil, List.take_nil, List.append_nil, Nat.reduceAdd, Nat.reduceSub, Nat.reduceMul, Nat.reduceEqDiff, Nat.reduceLeDiff, Nat.le_refl, Option.getD_none, Bool.and_true, Bool.true_and, Bool.and_false, Bool.and_self, Nat.lt_irrefl, Nat.reduceLT, Nat.zero_add, evRegion_still, evE, effOf, effMem, effStore, effCall, effVar, effLit, effMake, effApp, Eff.ap, evCall, lend, evAppend, evLit, evMake, evNil, freeze, onto, dropO, elemsV, sized, evCmp, eqT, eqG, minV, evUn, evField, evExtract, evIndexA, evIndexV, evSlice, optInt, fillV, placeOf, thawed, del, List.contains_append, Option.bind_none, Option.bind_some, Bool.and_eq_true, decide_true, decide_false, Bool.not_eq_true', List.take_length, List.range_succ, List.range_zero, Option.some.injEq, ne_eq, not_false_eq_true, not_true_eq_false, List.all_cons, List.all_nil, isNilSlice, List.getElem?_toArray, beqT, beqF, Bool.cond_true, Bool.cond_false, or_self, true_or, or_true, or_false, false_or, plain, plainL, ask_true, ask_false, pickV_true, pickV_false, resolve_ptr, cellsJ, junkOk, ty1, ti1, ty2, ti2, ty3, ti3, ty4, ti4, ty22, ti22, ty26, ti26, ty38, ti38, ty41, ti41, ty53, ti53, ty54, ti54, ty60, ti60, ty63, ti63, ty68, ti68, ty69, ti69, ty80, ti80, ty81, ti81, ty87, ti87, ty88, ti88, ty90, ti90, ty91, ti91, ty92, ti92, ty94, ti94, ty95, ti95, einl, inls]

end Go.AM.A
