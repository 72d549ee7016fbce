/- A part of the proof: the texts BBand, BBandB, BBandC, BBandD, BBandE, BBandF, BBandG, BBandT, BBandI, BBandH, BBandJ, BBandK, BBandM, one after another. No condition. -/
import Derived.Test.YtbfgifolmpmagaaBHang
import Derived.IntWalk
set_option linter.unusedSimpArgs false

section
namespace Go.AM.B
open Go Go.Proofs


structure Run where
  len : Int
  thick : Int
  shade : Int
  flaw : Int
  deriving DecidableEq

def I (n : Int) : V := .int .i64 n
def encRun (r : Run) : V := .agg [.int .i64 r.len, .int .i64 r.thick, .int .i64 r.shade, .int .i64 r.flaw]


theorem c109 (x lo hi : Int) : (orcω E X0).call 109 [.int .i64 x, .int .i64 lo, .int .i64 hi] = some (.bool (inB x lo hi)) := by
  refine call_of rfl fn109 rfl ?_
  by_cases h : lo ≤ x
  · simp only [Try.ntmps109, Try.results109, efc109, h, inB, Option.getD_some, List.replicate, List.cons_append, List.nil_append, den_seq, den_region, den_block, den_cond, den_skip, den_ret, den_exit, evOps, evOp, evPlain, evVal, evMem, wantedV, St.eval, St.put, St.get, constV, List.set, List.getD_cons_zero, List.getD_cons_succ, Bool.false_eq_true, if_false, List.contains_nil, Bool.false_and, normally_some, andThen_normal, andThen_exit, andThen_ret, atBlock_normal, atBlock_exit, atBlock_ret, lenV, sliceOf, arrayOf, fieldsOf, onBool_true, onBool_false, after_normal, after_exit, after_ret, normOf, norm, firstRegion, look, maskFrom, evBin, evIndexS, evLoad, evVar, evStore, evFieldAddr, nameOf, St.alloc, St.drop, killL, kill, killAll, killObs, killOb, upd, cells?, part, retag, retagL, putIn, refFree, refFreeL, isNew, isNewL, Ty.isAgg, splice, idsL, ids, idsLL, reach, depth, St.dropL, outOfCall_some, atEnd_normal, atEnd_ret, resultsV, resultV, allM_nil, allM_cons, resolve_int, resolve_bool, resolve_lit, resolve_sl, resolve_fp, resolve_emp, resolve_agg, resolve_tup, resolve_clo, resolve_own, Option.map_some, Option.map_none, List.length_cons, List.length_nil, List.length_map, ↓reduceIte, List.contains_cons, Bool.or_false, Bool.false_or, Bool.or_true, Bool.true_or, Nat.reduceBEq, beq_self_eq_true, List.map_cons, List.map_nil, List.filter_cons, List.filter_nil, List.flatMap_cons, List.flatMap_nil, Bool.not_true, Bool.not_false, and_self, and_true, true_and, List.getElem?_cons_zero, List.getElem?_cons_succ, List.getElem?_nil, List.drop_succ_cons, List.drop_zero, List.take_succ_cons, List.take_zero, List.drop_nil, List.take_nil, List.append_nil, Nat.reduceAdd, Nat.reduceSub, Nat.reduceMul, Nat.reduceEqDiff, Nat.reduceLeDiff, Nat.le_refl, Option.getD_none, Bool.and_true, Bool.true_and, Bool.and_false, Bool.and_self, Nat.lt_irrefl, Nat.reduceLT, Nat.zero_add, evRegion_still, evE, effOf, effMem, effStore, effCall, effVar, effLit, effMake, effApp, Eff.ap, evCall, lend, evAppend, evLit, evMake, evNil, freeze, onto, dropO, elemsV, sized, evCmp, eqT, eqG, minV, evUn, evField, evExtract, evIndexA, evIndexV, evSlice, optInt, fillV, placeOf, thawed, del, List.contains_append, Option.bind_none, Option.bind_some, Bool.and_eq_true, decide_true, decide_false, Bool.not_eq_true', List.take_length, List.range_succ, List.range_zero, Option.some.injEq, ne_eq, not_false_eq_true, not_true_eq_false, List.all_cons, List.all_nil, isNilSlice, List.getElem?_toArray, beqT, beqF, Bool.cond_true, Bool.cond_false, or_self, true_or, or_true, or_false, false_or, plain, plainL, ask_true, ask_false, pickV_true, pickV_false, resolve_ptr, cellsJ, junkOk, evLook, evMap, evEnter, effEnter, findV, mapOf, keyOk, evFrame, unframe, closed, fixed, sameEs, pickObs, putObs, wit, sameWit, Option.isSome_some, den_regT, regG_no, frameG_no, frameG_yes, evNilCheck, te, einl, inls, efr]
  · simp only [Try.ntmps109, Try.results109, efc109, h, inB, Option.getD_some, List.replicate, List.cons_append, List.nil_append, den_seq, den_region, den_block, den_cond, den_skip, den_ret, den_exit, evOps, evOp, evPlain, evVal, evMem, wantedV, St.eval, St.put, St.get, constV, List.set, List.getD_cons_zero, List.getD_cons_succ, Bool.false_eq_true, if_false, List.contains_nil, Bool.false_and, normally_some, andThen_normal, andThen_exit, andThen_ret, atBlock_normal, atBlock_exit, atBlock_ret, lenV, sliceOf, arrayOf, fieldsOf, onBool_true, onBool_false, after_normal, after_exit, after_ret, normOf, norm, firstRegion, look, maskFrom, evBin, evIndexS, evLoad, evVar, evStore, evFieldAddr, nameOf, St.alloc, St.drop, killL, kill, killAll, killObs, killOb, upd, cells?, part, retag, retagL, putIn, refFree, refFreeL, isNew, isNewL, Ty.isAgg, splice, idsL, ids, idsLL, reach, depth, St.dropL, outOfCall_some, atEnd_normal, atEnd_ret, resultsV, resultV, allM_nil, allM_cons, resolve_int, resolve_bool, resolve_lit, resolve_sl, resolve_fp, resolve_emp, resolve_agg, resolve_tup, resolve_clo, resolve_own, Option.map_some, Option.map_none, List.length_cons, List.length_nil, List.length_map, ↓reduceIte, List.contains_cons, Bool.or_false, Bool.false_or, Bool.or_true, Bool.true_or, Nat.reduceBEq, beq_self_eq_true, List.map_cons, List.map_nil, List.filter_cons, List.filter_nil, List.flatMap_cons, List.flatMap_nil, Bool.not_true, Bool.not_false, and_self, and_true, true_and, List.getElem?_cons_zero, List.getElem?_cons_succ, List.getElem?_nil, List.drop_succ_cons, List.drop_zero, List.take_succ_cons, List.take_zero, List.drop_nil, List.take_nil, List.append_nil, Nat.reduceAdd, Nat.reduceSub, Nat.reduceMul, Nat.reduceEqDiff, Nat.reduceLeDiff, Nat.le_refl, Option.getD_none, Bool.and_true, Bool.true_and, Bool.and_false, Bool.and_self, Nat.lt_irrefl, Nat.reduceLT, Nat.zero_add, evRegion_still, evE, effOf, effMem, effStore, effCall, effVar, effLit, effMake, effApp, Eff.ap, evCall, lend, evAppend, evLit, evMake, evNil, freeze, onto, dropO, elemsV, sized, evCmp, eqT, eqG, minV, evUn, evField, evExtract, evIndexA, evIndexV, evSlice, optInt, fillV, placeOf, thawed, del, List.contains_append, Option.bind_none, Option.bind_some, Bool.and_eq_true, decide_true, decide_false, Bool.not_eq_true', List.take_length, List.range_succ, List.range_zero, Option.some.injEq, ne_eq, not_false_eq_true, not_true_eq_false, List.all_cons, List.all_nil, isNilSlice, List.getElem?_toArray, beqT, beqF, Bool.cond_true, Bool.cond_false, or_self, true_or, or_true, or_false, false_or, plain, plainL, ask_true, ask_false, pickV_true, pickV_false, resolve_ptr, cellsJ, junkOk, evLook, evMap, evEnter, effEnter, findV, mapOf, keyOk, evFrame, unframe, closed, fixed, sameEs, pickObs, putObs, wit, sameWit, Option.isSome_some, den_regT, regG_no, frameG_no, frameG_yes, evNilCheck, te, einl, inls, efr]

theorem c126 (x lo hi : Int) : (orcω E X0).call 126 [.int .i64 x, .int .i64 lo, .int .i64 hi] = some (.bool (inB x lo hi)) := by
  refine call_of rfl fn126 rfl ?_
  by_cases h : lo ≤ x
  · simp only [Try.ntmps126, Try.results126, efc126, h, inB, Option.getD_some, List.replicate, List.cons_append, List.nil_append, den_seq, den_region, den_block, den_cond, den_skip, den_ret, den_exit, evOps, evOp, evPlain, evVal, evMem, wantedV, St.eval, St.put, St.get, constV, List.set, List.getD_cons_zero, List.getD_cons_succ, Bool.false_eq_true, if_false, List.contains_nil, Bool.false_and, normally_some, andThen_normal, andThen_exit, andThen_ret, atBlock_normal, atBlock_exit, atBlock_ret, lenV, sliceOf, arrayOf, fieldsOf, onBool_true, onBool_false, after_normal, after_exit, after_ret, normOf, norm, firstRegion, look, maskFrom, evBin, evIndexS, evLoad, evVar, evStore, evFieldAddr, nameOf, St.alloc, St.drop, killL, kill, killAll, killObs, killOb, upd, cells?, part, retag, retagL, putIn, refFree, refFreeL, isNew, isNewL, Ty.isAgg, splice, idsL, ids, idsLL, reach, depth, St.dropL, outOfCall_some, atEnd_normal, atEnd_ret, resultsV, resultV, allM_nil, allM_cons, resolve_int, resolve_bool, resolve_lit, resolve_sl, resolve_fp, resolve_emp, resolve_agg, resolve_tup, resolve_clo, resolve_own, Option.map_some, Option.map_none, List.length_cons, List.length_nil, List.length_map, ↓reduceIte, List.contains_cons, Bool.or_false, Bool.false_or, Bool.or_true, Bool.true_or, Nat.reduceBEq, beq_self_eq_true, List.map_cons, List.map_nil, List.filter_cons, List.filter_nil, List.flatMap_cons, List.flatMap_nil, Bool.not_true, Bool.not_false, and_self, and_true, true_and, List.getElem?_cons_zero, List.getElem?_cons_succ, List.getElem?_nil, List.drop_succ_cons, List.drop_zero, List.take_succ_cons, List.take_zero, List.drop_nil, List.take_nil, List.append_nil, Nat.reduceAdd, Nat.reduceSub, Nat.reduceMul, Nat.reduceEqDiff, Nat.reduceLeDiff, Nat.le_refl, Option.getD_none, Bool.and_true, Bool.true_and, Bool.and_false, Bool.and_self, Nat.lt_irrefl, Nat.reduceLT, Nat.zero_add, evRegion_still, evE, effOf, effMem, effStore, effCall, effVar, effLit, effMake, effApp, Eff.ap, evCall, lend, evAppend, evLit, evMake, evNil, freeze, onto, dropO, elemsV, sized, evCmp, eqT, eqG, minV, evUn, evField, evExtract, evIndexA, evIndexV, evSlice, optInt, fillV, placeOf, thawed, del, List.contains_append, Option.bind_none, Option.bind_some, Bool.and_eq_true, decide_true, decide_false, Bool.not_eq_true', List.take_length, List.range_succ, List.range_zero, Option.some.injEq, ne_eq, not_false_eq_true, not_true_eq_false, List.all_cons, List.all_nil, isNilSlice, List.getElem?_toArray, beqT, beqF, Bool.cond_true, Bool.cond_false, or_self, true_or, or_true, or_false, false_or, plain, plainL, ask_true, ask_false, pickV_true, pickV_false, resolve_ptr, cellsJ, junkOk, evLook, evMap, evEnter, effEnter, findV, mapOf, keyOk, evFrame, unframe, closed, fixed, sameEs, pickObs, putObs, wit, sameWit, Option.isSome_some, den_regT, regG_no, frameG_no, frameG_yes, evNilCheck, te, einl, inls, efr]
  · simp only [Try.ntmps126, Try.results126, efc126, h, inB, Option.getD_some, List.replicate, List.cons_append, List.nil_append, den_seq, den_region, den_block, den_cond, den_skip, den_ret, den_exit, evOps, evOp, evPlain, evVal, evMem, wantedV, St.eval, St.put, St.get, constV, List.set, List.getD_cons_zero, List.getD_cons_succ, Bool.false_eq_true, if_false, List.contains_nil, Bool.false_and, normally_some, andThen_normal, andThen_exit, andThen_ret, atBlock_normal, atBlock_exit, atBlock_ret, lenV, sliceOf, arrayOf, fieldsOf, onBool_true, onBool_false, after_normal, after_exit, after_ret, normOf, norm, firstRegion, look, maskFrom, evBin, evIndexS, evLoad, evVar, evStore, evFieldAddr, nameOf, St.alloc, St.drop, killL, kill, killAll, killObs, killOb, upd, cells?, part, retag, retagL, putIn, refFree, refFreeL, isNew, isNewL, Ty.isAgg, splice, idsL, ids, idsLL, reach, depth, St.dropL, outOfCall_some, atEnd_normal, atEnd_ret, resultsV, resultV, allM_nil, allM_cons, resolve_int, resolve_bool, resolve_lit, resolve_sl, resolve_fp, resolve_emp, resolve_agg, resolve_tup, resolve_clo, resolve_own, Option.map_some, Option.map_none, List.length_cons, List.length_nil, List.length_map, ↓reduceIte, List.contains_cons, Bool.or_false, Bool.false_or, Bool.or_true, Bool.true_or, Nat.reduceBEq, beq_self_eq_true, List.map_cons, List.map_nil, List.filter_cons, List.filter_nil, List.flatMap_cons, List.flatMap_nil, Bool.not_true, Bool.not_false, and_self, and_true, true_and, List.getElem?_cons_zero, List.getElem?_cons_succ, List.getElem?_nil, List.drop_succ_cons, List.drop_zero, List.take_succ_cons, List.take_zero, List.drop_nil, List.take_nil, List.append_nil, Nat.reduceAdd, Nat.reduceSub, Nat.reduceMul, Nat.reduceEqDiff, Nat.reduceLeDiff, Nat.le_refl, Option.getD_none, Bool.and_true, Bool.true_and, Bool.and_false, Bool.and_self, Nat.lt_irrefl, Nat.reduceLT, Nat.zero_add, evRegion_still, evE, effOf, effMem, effStore, effCall, effVar, effLit, effMake, effApp, Eff.ap, evCall, lend, evAppend, evLit, evMake, evNil, freeze, onto, dropO, elemsV, sized, evCmp, eqT, eqG, minV, evUn, evField, evExtract, evIndexA, evIndexV, evSlice, optInt, fillV, placeOf, thawed, del, List.contains_append, Option.bind_none, Option.bind_some, Bool.and_eq_true, decide_true, decide_false, Bool.not_eq_true', List.take_length, List.range_succ, List.range_zero, Option.some.injEq, ne_eq, not_false_eq_true, not_true_eq_false, List.all_cons, List.all_nil, isNilSlice, List.getElem?_toArray, beqT, beqF, Bool.cond_true, Bool.cond_false, or_self, true_or, or_true, or_false, false_or, plain, plainL, ask_true, ask_false, pickV_true, pickV_false, resolve_ptr, cellsJ, junkOk, evLook, evMap, evEnter, effEnter, findV, mapOf, keyOk, evFrame, unframe, closed, fixed, sameEs, pickObs, putObs, wit, sameWit, Option.isSome_some, den_regT, regG_no, frameG_no, frameG_yes, evNilCheck, te, einl, inls, efr]

def wellB (r : Run) : Bool := inB r.len 1 1000000 && inB r.thick 1 1000 && inB r.shade 0 99 && inB r.flaw 0 15

def ln (rs : List Run) : Int := rs.foldl (fun a r => IntKind.i64.wrap (a + r.len)) 0

theorem c82 (t : Bool) (rs : List Run) (hn : rs.length ≤ 1000000000) : (orcω E X0).call 82 [.sl t (rs.map encRun)] = some (.int .i64 (ln rs)) := by
  refine call_of rfl fn82 rfl ?_
  simp only [Try.ntmps82, Try.results82, efc82, fc82, Option.getD_some, List.replicate, List.cons_append, List.nil_append, den_seq, den_region, den_block, den_cond, den_skip, den_ret, den_exit, evOps, evOp, evPlain, evVal, evMem, wantedV, St.eval, St.put, St.get, constV, List.set, List.getD_cons_zero, List.getD_cons_succ, Bool.false_eq_true, if_false, List.contains_nil, Bool.false_and, normally_some, andThen_normal, andThen_exit, andThen_ret, atBlock_normal, atBlock_exit, atBlock_ret, lenV, sliceOf, arrayOf, fieldsOf, onBool_true, onBool_false, after_normal, after_exit, after_ret, normOf, norm, firstRegion, look, maskFrom, evBin, evIndexS, evLoad, evVar, evStore, evFieldAddr, nameOf, St.alloc, St.drop, killL, kill, killAll, killObs, killOb, upd, cells?, part, retag, retagL, putIn, refFree, refFreeL, isNew, isNewL, Ty.isAgg, splice, idsL, ids, idsLL, reach, depth, St.dropL, outOfCall_some, atEnd_normal, atEnd_ret, resultsV, resultV, allM_nil, allM_cons, resolve_int, resolve_bool, resolve_lit, resolve_sl, resolve_fp, resolve_emp, resolve_agg, resolve_tup, resolve_clo, resolve_own, Option.map_some, Option.map_none, List.length_cons, List.length_nil, List.length_map, ↓reduceIte, List.contains_cons, Bool.or_false, Bool.false_or, Bool.or_true, Bool.true_or, Nat.reduceBEq, beq_self_eq_true, List.map_cons, List.map_nil, List.filter_cons, List.filter_nil, List.flatMap_cons, List.flatMap_nil, Bool.not_true, Bool.not_false, and_self, and_true, true_and, List.getElem?_cons_zero, List.getElem?_cons_succ, List.getElem?_nil, List.drop_succ_cons, List.drop_zero, List.take_succ_cons, List.take_zero, List.drop_nil, List.take_nil, List.append_nil, Nat.reduceAdd, Nat.reduceSub, Nat.reduceMul, Nat.reduceEqDiff, Nat.reduceLeDiff, Nat.le_refl, Option.getD_none, Bool.and_true, Bool.true_and, Bool.and_false, Bool.and_self, Nat.lt_irrefl, Nat.reduceLT, Nat.zero_add, evRegion_still, evE, effOf, effMem, effStore, effCall, effVar, effLit, effMake, effApp, Eff.ap, evCall, lend, evAppend, evLit, evMake, evNil, freeze, onto, dropO, elemsV, sized, evCmp, eqT, eqG, minV, evUn, evField, evExtract, evIndexA, evIndexV, evSlice, optInt, fillV, placeOf, thawed, del, List.contains_append, Option.bind_none, Option.bind_some, Bool.and_eq_true, decide_true, decide_false, Bool.not_eq_true', List.take_length, List.range_succ, List.range_zero, Option.some.injEq, ne_eq, not_false_eq_true, not_true_eq_false, List.all_cons, List.all_nil, isNilSlice, List.getElem?_toArray, beqT, beqF, Bool.cond_true, Bool.cond_false, or_self, true_or, or_true, or_false, false_or, plain, plainL, ask_true, ask_false, pickV_true, pickV_false, resolve_ptr, cellsJ, junkOk, evLook, evMap, evEnter, effEnter, findV, mapOf, keyOk, evFrame, unframe, closed, fixed, sameEs, pickObs, putObs, wit, sameWit, Option.isSome_some, den_regT, regG_no, frameG_no, frameG_yes, evNilCheck, te, einl, inls, efr]
  generalize hr : den E X0 _ 0 (Code.loop _) _ = r
  refine den_loop_post (K := fun x => outOfCall (atEnd E _ (andThen (atBlock 0 x) _)) = some _) hr (α := { p : List Run × List Run // rs = p.1 ++ p.2 })
    (fun a => { slots := [.junk, .junk, .junk, .int .i64 (ln a.1.1), .junk, .junk, .sl t (rs.map encRun), .int .i64 rs.length, .int .i64 a.1.1.length, .junk, .junk, .junk, .junk, .junk, .junk, .junk, .junk, .junk], outer := [], objs := [] })
    (fun a => a.1.2.length) ⟨([], rs), rfl⟩ ?_ ?_ <;> clear hr
  · simp only [Option.getD_some, List.replicate, List.cons_append, List.nil_append, den_seq, den_region, den_block, den_cond, den_skip, den_ret, den_exit, evOps, evOp, evPlain, evVal, evMem, wantedV, St.eval, St.put, St.get, constV, List.set, List.getD_cons_zero, List.getD_cons_succ, Bool.false_eq_true, if_false, List.contains_nil, Bool.false_and, normally_some, andThen_normal, andThen_exit, andThen_ret, atBlock_normal, atBlock_exit, atBlock_ret, lenV, sliceOf, arrayOf, fieldsOf, onBool_true, onBool_false, after_normal, after_exit, after_ret, normOf, norm, firstRegion, look, maskFrom, evBin, evIndexS, evLoad, evVar, evStore, evFieldAddr, nameOf, St.alloc, St.drop, killL, kill, killAll, killObs, killOb, upd, cells?, part, retag, retagL, putIn, refFree, refFreeL, isNew, isNewL, Ty.isAgg, splice, idsL, ids, idsLL, reach, depth, St.dropL, outOfCall_some, atEnd_normal, atEnd_ret, resultsV, resultV, allM_nil, allM_cons, resolve_int, resolve_bool, resolve_lit, resolve_sl, resolve_fp, resolve_emp, resolve_agg, resolve_tup, resolve_clo, resolve_own, Option.map_some, Option.map_none, List.length_cons, List.length_nil, List.length_map, ↓reduceIte, List.contains_cons, Bool.or_false, Bool.false_or, Bool.or_true, Bool.true_or, Nat.reduceBEq, beq_self_eq_true, List.map_cons, List.map_nil, List.filter_cons, List.filter_nil, List.flatMap_cons, List.flatMap_nil, Bool.not_true, Bool.not_false, and_self, and_true, true_and, List.getElem?_cons_zero, List.getElem?_cons_succ, List.getElem?_nil, List.drop_succ_cons, List.drop_zero, List.take_succ_cons, List.take_zero, List.drop_nil, List.take_nil, List.append_nil, Nat.reduceAdd, Nat.reduceSub, Nat.reduceMul, Nat.reduceEqDiff, Nat.reduceLeDiff, Nat.le_refl, Option.getD_none, Bool.and_true, Bool.true_and, Bool.and_false, Bool.and_self, Nat.lt_irrefl, Nat.reduceLT, Nat.zero_add, evRegion_still, evE, effOf, effMem, effStore, effCall, effVar, effLit, effMake, effApp, Eff.ap, evCall, lend, evAppend, evLit, evMake, evNil, freeze, onto, dropO, elemsV, sized, evCmp, eqT, eqG, minV, evUn, evField, evExtract, evIndexA, evIndexV, evSlice, optInt, fillV, placeOf, thawed, del, List.contains_append, Option.bind_none, Option.bind_some, Bool.and_eq_true, decide_true, decide_false, Bool.not_eq_true', List.take_length, List.range_succ, List.range_zero, Option.some.injEq, ne_eq, not_false_eq_true, not_true_eq_false, List.all_cons, List.all_nil, isNilSlice, List.getElem?_toArray, beqT, beqF, Bool.cond_true, Bool.cond_false, or_self, true_or, or_true, or_false, false_or, plain, plainL, ask_true, ask_false, pickV_true, pickV_false, resolve_ptr, cellsJ, junkOk, evLook, evMap, evEnter, effEnter, findV, mapOf, keyOk, evFrame, unframe, closed, fixed, sameEs, pickObs, putObs, wit, sameWit, Option.isSome_some, den_regT, regG_no, frameG_no, frameG_yes, evNilCheck, te, einl, inls, efr, ln, List.foldl_nil, Int.natCast_zero]
  · rintro ⟨⟨pre, post⟩, hp⟩
    cases post with
    | nil =>
      obtain rfl : rs = pre := by simpa using hp
      simp only [Try.results82, Int.lt_irrefl, Option.getD_some, List.replicate, List.cons_append, List.nil_append, den_seq, den_region, den_block, den_cond, den_skip, den_ret, den_exit, evOps, evOp, evPlain, evVal, evMem, wantedV, St.eval, St.put, St.get, constV, List.set, List.getD_cons_zero, List.getD_cons_succ, Bool.false_eq_true, if_false, List.contains_nil, Bool.false_and, normally_some, andThen_normal, andThen_exit, andThen_ret, atBlock_normal, atBlock_exit, atBlock_ret, lenV, sliceOf, arrayOf, fieldsOf, onBool_true, onBool_false, after_normal, after_exit, after_ret, normOf, norm, firstRegion, look, maskFrom, evBin, evIndexS, evLoad, evVar, evStore, evFieldAddr, nameOf, St.alloc, St.drop, killL, kill, killAll, killObs, killOb, upd, cells?, part, retag, retagL, putIn, refFree, refFreeL, isNew, isNewL, Ty.isAgg, splice, idsL, ids, idsLL, reach, depth, St.dropL, outOfCall_some, atEnd_normal, atEnd_ret, resultsV, resultV, allM_nil, allM_cons, resolve_int, resolve_bool, resolve_lit, resolve_sl, resolve_fp, resolve_emp, resolve_agg, resolve_tup, resolve_clo, resolve_own, Option.map_some, Option.map_none, List.length_cons, List.length_nil, List.length_map, ↓reduceIte, List.contains_cons, Bool.or_false, Bool.false_or, Bool.or_true, Bool.true_or, Nat.reduceBEq, beq_self_eq_true, List.map_cons, List.map_nil, List.filter_cons, List.filter_nil, List.flatMap_cons, List.flatMap_nil, Bool.not_true, Bool.not_false, and_self, and_true, true_and, List.getElem?_cons_zero, List.getElem?_cons_succ, List.getElem?_nil, List.drop_succ_cons, List.drop_zero, List.take_succ_cons, List.take_zero, List.drop_nil, List.take_nil, List.append_nil, Nat.reduceAdd, Nat.reduceSub, Nat.reduceMul, Nat.reduceEqDiff, Nat.reduceLeDiff, Nat.le_refl, Option.getD_none, Bool.and_true, Bool.true_and, Bool.and_false, Bool.and_self, Nat.lt_irrefl, Nat.reduceLT, Nat.zero_add, evRegion_still, evE, effOf, effMem, effStore, effCall, effVar, effLit, effMake, effApp, Eff.ap, evCall, lend, evAppend, evLit, evMake, evNil, freeze, onto, dropO, elemsV, sized, evCmp, eqT, eqG, minV, evUn, evField, evExtract, evIndexA, evIndexV, evSlice, optInt, fillV, placeOf, thawed, del, List.contains_append, Option.bind_none, Option.bind_some, Bool.and_eq_true, decide_true, decide_false, Bool.not_eq_true', List.take_length, List.range_succ, List.range_zero, Option.some.injEq, ne_eq, not_false_eq_true, not_true_eq_false, List.all_cons, List.all_nil, isNilSlice, List.getElem?_toArray, beqT, beqF, Bool.cond_true, Bool.cond_false, or_self, true_or, or_true, or_false, false_or, plain, plainL, ask_true, ask_false, pickV_true, pickV_false, resolve_ptr, cellsJ, junkOk, evLook, evMap, evEnter, effEnter, findV, mapOf, keyOk, evFrame, unframe, closed, fixed, sameEs, pickObs, putObs, wit, sameWit, Option.isSome_some, den_regT, regG_no, frameG_no, frameG_yes, evNilCheck, te, einl, inls, efr]
    | cons r post =>
      have hlt : ((pre.length : Int) < rs.length) := by subst hp; simp; omega
      have hget : rs[pre.length]? = some r := by subst hp; simp
      have hw : IntKind.i64.wrap ((pre.length : Int) + 1) = ((pre ++ [r]).length : Int) := by rw [IntWalk.i64_in _ (by omega)]; simp
      simp only [Try.results82, hlt, Int.natCast_nonneg, Int.toNat_natCast, List.getElem?_map, hget, encRun, Option.getD_some, List.replicate, List.cons_append, List.nil_append, den_seq, den_region, den_block, den_cond, den_skip, den_ret, den_exit, evOps, evOp, evPlain, evVal, evMem, wantedV, St.eval, St.put, St.get, constV, List.set, List.getD_cons_zero, List.getD_cons_succ, Bool.false_eq_true, if_false, List.contains_nil, Bool.false_and, normally_some, andThen_normal, andThen_exit, andThen_ret, atBlock_normal, atBlock_exit, atBlock_ret, lenV, sliceOf, arrayOf, fieldsOf, onBool_true, onBool_false, after_normal, after_exit, after_ret, normOf, norm, firstRegion, look, maskFrom, evBin, evIndexS, evLoad, evVar, evStore, evFieldAddr, nameOf, St.alloc, St.drop, killL, kill, killAll, killObs, killOb, upd, cells?, part, retag, retagL, putIn, refFree, refFreeL, isNew, isNewL, Ty.isAgg, splice, idsL, ids, idsLL, reach, depth, St.dropL, outOfCall_some, atEnd_normal, atEnd_ret, resultsV, resultV, allM_nil, allM_cons, resolve_int, resolve_bool, resolve_lit, resolve_sl, resolve_fp, resolve_emp, resolve_agg, resolve_tup, resolve_clo, resolve_own, Option.map_some, Option.map_none, List.length_cons, List.length_nil, List.length_map, ↓reduceIte, List.contains_cons, Bool.or_false, Bool.false_or, Bool.or_true, Bool.true_or, Nat.reduceBEq, beq_self_eq_true, List.map_cons, List.map_nil, List.filter_cons, List.filter_nil, List.flatMap_cons, List.flatMap_nil, Bool.not_true, Bool.not_false, and_self, and_true, true_and, List.getElem?_cons_zero, List.getElem?_cons_succ, List.getElem?_nil, List.drop_succ_cons, List.drop_zero, List.take_succ_cons, List.take_zero, List.drop_nil, List.take_nil, List.append_nil, Nat.reduceAdd, Nat.reduceSub, Nat.reduceMul, Nat.reduceEqDiff, Nat.reduceLeDiff, Nat.le_refl, Option.getD_none, Bool.and_true, Bool.true_and, Bool.and_false, Bool.and_self, Nat.lt_irrefl, Nat.reduceLT, Nat.zero_add, evRegion_still, evE, effOf, effMem, effStore, effCall, effVar, effLit, effMake, effApp, Eff.ap, evCall, lend, evAppend, evLit, evMake, evNil, freeze, onto, dropO, elemsV, sized, evCmp, eqT, eqG, minV, evUn, evField, evExtract, evIndexA, evIndexV, evSlice, optInt, fillV, placeOf, thawed, del, List.contains_append, Option.bind_none, Option.bind_some, Bool.and_eq_true, decide_true, decide_false, Bool.not_eq_true', List.take_length, List.range_succ, List.range_zero, Option.some.injEq, ne_eq, not_false_eq_true, not_true_eq_false, List.all_cons, List.all_nil, isNilSlice, List.getElem?_toArray, beqT, beqF, Bool.cond_true, Bool.cond_false, or_self, true_or, or_true, or_false, false_or, plain, plainL, ask_true, ask_false, pickV_true, pickV_false, resolve_ptr, cellsJ, junkOk, evLook, evMap, evEnter, effEnter, findV, mapOf, keyOk, evFrame, unframe, closed, fixed, sameEs, pickObs, putObs, wit, sameWit, Option.isSome_some, den_regT, regG_no, frameG_no, frameG_yes, evNilCheck, te, einl, inls, efr]
      exact ⟨⟨(pre ++ [r], post), by simpa using hp⟩, by simp only [hw, ln, List.foldl_append, List.foldl_cons, List.foldl_nil], Nat.lt_succ_self _⟩

theorem c108 (t : Bool) (rs : List Run) (hn : rs.length ≤ 1000000000) : (orcω E X0).call 108 [.sl t (rs.map encRun)] = some (.int .i64 (ln rs)) := by
  refine call_of rfl fn108 rfl ?_
  simp only [Try.ntmps108, Try.results108, efc108, fc108, Option.getD_some, List.replicate, List.cons_append, List.nil_append, den_seq, den_region, den_block, den_cond, den_skip, den_ret, den_exit, evOps, evOp, evPlain, evVal, evMem, wantedV, St.eval, St.put, St.get, constV, List.set, List.getD_cons_zero, List.getD_cons_succ, Bool.false_eq_true, if_false, List.contains_nil, Bool.false_and, normally_some, andThen_normal, andThen_exit, andThen_ret, atBlock_normal, atBlock_exit, atBlock_ret, lenV, sliceOf, arrayOf, fieldsOf, onBool_true, onBool_false, after_normal, after_exit, after_ret, normOf, norm, firstRegion, look, maskFrom, evBin, evIndexS, evLoad, evVar, evStore, evFieldAddr, nameOf, St.alloc, St.drop, killL, kill, killAll, killObs, killOb, upd, cells?, part, retag, retagL, putIn, refFree, refFreeL, isNew, isNewL, Ty.isAgg, splice, idsL, ids, idsLL, reach, depth, St.dropL, outOfCall_some, atEnd_normal, atEnd_ret, resultsV, resultV, allM_nil, allM_cons, resolve_int, resolve_bool, resolve_lit, resolve_sl, resolve_fp, resolve_emp, resolve_agg, resolve_tup, resolve_clo, resolve_own, Option.map_some, Option.map_none, List.length_cons, List.length_nil, List.length_map, ↓reduceIte, List.contains_cons, Bool.or_false, Bool.false_or, Bool.or_true, Bool.true_or, Nat.reduceBEq, beq_self_eq_true, List.map_cons, List.map_nil, List.filter_cons, List.filter_nil, List.flatMap_cons, List.flatMap_nil, Bool.not_true, Bool.not_false, and_self, and_true, true_and, List.getElem?_cons_zero, List.getElem?_cons_succ, List.getElem?_nil, List.drop_succ_cons, List.drop_zero, List.take_succ_cons, List.take_zero, List.drop_nil, List.take_nil, List.append_nil, Nat.reduceAdd, Nat.reduceSub, Nat.reduceMul, Nat.reduceEqDiff, Nat.reduceLeDiff, Nat.le_refl, Option.getD_none, Bool.and_true, Bool.true_and, Bool.and_false, Bool.and_self, Nat.lt_irrefl, Nat.reduceLT, Nat.zero_add, evRegion_still, evE, effOf, effMem, effStore, effCall, effVar, effLit, effMake, effApp, Eff.ap, evCall, lend, evAppend, evLit, evMake, evNil, freeze, onto, dropO, elemsV, sized, evCmp, eqT, eqG, minV, evUn, evField, evExtract, evIndexA, evIndexV, evSlice, optInt, fillV, placeOf, thawed, del, List.contains_append, Option.bind_none, Option.bind_some, Bool.and_eq_true, decide_true, decide_false, Bool.not_eq_true', List.take_length, List.range_succ, List.range_zero, Option.some.injEq, ne_eq, not_false_eq_true, not_true_eq_false, List.all_cons, List.all_nil, isNilSlice, List.getElem?_toArray, beqT, beqF, Bool.cond_true, Bool.cond_false, or_self, true_or, or_true, or_false, false_or, plain, plainL, ask_true, ask_false, pickV_true, pickV_false, resolve_ptr, cellsJ, junkOk, evLook, evMap, evEnter, effEnter, findV, mapOf, keyOk, evFrame, unframe, closed, fixed, sameEs, pickObs, putObs, wit, sameWit, Option.isSome_some, den_regT, regG_no, frameG_no, frameG_yes, evNilCheck, te, einl, inls, efr]
  generalize hr : den E X0 _ 0 (Code.loop _) _ = r
  refine den_loop_post (K := fun x => outOfCall (atEnd E _ (andThen (atBlock 0 x) _)) = some _) hr (α := { p : List Run × List Run // rs = p.1 ++ p.2 })
    (fun a => { slots := [.sl t (rs.map encRun), .junk, .junk, .int .i64 (ln a.1.1), .int .i64 a.1.1.length, .junk, .junk, .junk, .junk, .junk, .junk, .junk, .junk, .junk, .junk, .junk, .junk, .junk, .junk], outer := [], objs := [] })
    (fun a => a.1.2.length) ⟨([], rs), rfl⟩ ?_ ?_ <;> clear hr
  · simp only [Option.getD_some, List.replicate, List.cons_append, List.nil_append, den_seq, den_region, den_block, den_cond, den_skip, den_ret, den_exit, evOps, evOp, evPlain, evVal, evMem, wantedV, St.eval, St.put, St.get, constV, List.set, List.getD_cons_zero, List.getD_cons_succ, Bool.false_eq_true, if_false, List.contains_nil, Bool.false_and, normally_some, andThen_normal, andThen_exit, andThen_ret, atBlock_normal, atBlock_exit, atBlock_ret, lenV, sliceOf, arrayOf, fieldsOf, onBool_true, onBool_false, after_normal, after_exit, after_ret, normOf, norm, firstRegion, look, maskFrom, evBin, evIndexS, evLoad, evVar, evStore, evFieldAddr, nameOf, St.alloc, St.drop, killL, kill, killAll, killObs, killOb, upd, cells?, part, retag, retagL, putIn, refFree, refFreeL, isNew, isNewL, Ty.isAgg, splice, idsL, ids, idsLL, reach, depth, St.dropL, outOfCall_some, atEnd_normal, atEnd_ret, resultsV, resultV, allM_nil, allM_cons, resolve_int, resolve_bool, resolve_lit, resolve_sl, resolve_fp, resolve_emp, resolve_agg, resolve_tup, resolve_clo, resolve_own, Option.map_some, Option.map_none, List.length_cons, List.length_nil, List.length_map, ↓reduceIte, List.contains_cons, Bool.or_false, Bool.false_or, Bool.or_true, Bool.true_or, Nat.reduceBEq, beq_self_eq_true, List.map_cons, List.map_nil, List.filter_cons, List.filter_nil, List.flatMap_cons, List.flatMap_nil, Bool.not_true, Bool.not_false, and_self, and_true, true_and, List.getElem?_cons_zero, List.getElem?_cons_succ, List.getElem?_nil, List.drop_succ_cons, List.drop_zero, List.take_succ_cons, List.take_zero, List.drop_nil, List.take_nil, List.append_nil, Nat.reduceAdd, Nat.reduceSub, Nat.reduceMul, Nat.reduceEqDiff, Nat.reduceLeDiff, Nat.le_refl, Option.getD_none, Bool.and_true, Bool.true_and, Bool.and_false, Bool.and_self, Nat.lt_irrefl, Nat.reduceLT, Nat.zero_add, evRegion_still, evE, effOf, effMem, effStore, effCall, effVar, effLit, effMake, effApp, Eff.ap, evCall, lend, evAppend, evLit, evMake, evNil, freeze, onto, dropO, elemsV, sized, evCmp, eqT, eqG, minV, evUn, evField, evExtract, evIndexA, evIndexV, evSlice, optInt, fillV, placeOf, thawed, del, List.contains_append, Option.bind_none, Option.bind_some, Bool.and_eq_true, decide_true, decide_false, Bool.not_eq_true', List.take_length, List.range_succ, List.range_zero, Option.some.injEq, ne_eq, not_false_eq_true, not_true_eq_false, List.all_cons, List.all_nil, isNilSlice, List.getElem?_toArray, beqT, beqF, Bool.cond_true, Bool.cond_false, or_self, true_or, or_true, or_false, false_or, plain, plainL, ask_true, ask_false, pickV_true, pickV_false, resolve_ptr, cellsJ, junkOk, evLook, evMap, evEnter, effEnter, findV, mapOf, keyOk, evFrame, unframe, closed, fixed, sameEs, pickObs, putObs, wit, sameWit, Option.isSome_some, den_regT, regG_no, frameG_no, frameG_yes, evNilCheck, te, einl, inls, efr, ln, List.foldl_nil, Int.natCast_zero]
  · rintro ⟨⟨pre, post⟩, hp⟩
    cases post with
    | nil =>
      obtain rfl : rs = pre := by simpa using hp
      simp only [Try.results108, Int.lt_irrefl, Option.getD_some, List.replicate, List.cons_append, List.nil_append, den_seq, den_region, den_block, den_cond, den_skip, den_ret, den_exit, evOps, evOp, evPlain, evVal, evMem, wantedV, St.eval, St.put, St.get, constV, List.set, List.getD_cons_zero, List.getD_cons_succ, Bool.false_eq_true, if_false, List.contains_nil, Bool.false_and, normally_some, andThen_normal, andThen_exit, andThen_ret, atBlock_normal, atBlock_exit, atBlock_ret, lenV, sliceOf, arrayOf, fieldsOf, onBool_true, onBool_false, after_normal, after_exit, after_ret, normOf, norm, firstRegion, look, maskFrom, evBin, evIndexS, evLoad, evVar, evStore, evFieldAddr, nameOf, St.alloc, St.drop, killL, kill, killAll, killObs, killOb, upd, cells?, part, retag, retagL, putIn, refFree, refFreeL, isNew, isNewL, Ty.isAgg, splice, idsL, ids, idsLL, reach, depth, St.dropL, outOfCall_some, atEnd_normal, atEnd_ret, resultsV, resultV, allM_nil, allM_cons, resolve_int, resolve_bool, resolve_lit, resolve_sl, resolve_fp, resolve_emp, resolve_agg, resolve_tup, resolve_clo, resolve_own, Option.map_some, Option.map_none, List.length_cons, List.length_nil, List.length_map, ↓reduceIte, List.contains_cons, Bool.or_false, Bool.false_or, Bool.or_true, Bool.true_or, Nat.reduceBEq, beq_self_eq_true, List.map_cons, List.map_nil, List.filter_cons, List.filter_nil, List.flatMap_cons, List.flatMap_nil, Bool.not_true, Bool.not_false, and_self, and_true, true_and, List.getElem?_cons_zero, List.getElem?_cons_succ, List.getElem?_nil, List.drop_succ_cons, List.drop_zero, List.take_succ_cons, List.take_zero, List.drop_nil, List.take_nil, List.append_nil, Nat.reduceAdd, Nat.reduceSub, Nat.reduceMul, Nat.reduceEqDiff, Nat.reduceLeDiff, Nat.le_refl, Option.getD_none, Bool.and_true, Bool.true_and, Bool.and_false, Bool.and_self, Nat.lt_irrefl, Nat.reduceLT, Nat.zero_add, evRegion_still, evE, effOf, effMem, effStore, effCall, effVar, effLit, effMake, effApp, Eff.ap, evCall, lend, evAppend, evLit, evMake, evNil, freeze, onto, dropO, elemsV, sized, evCmp, eqT, eqG, minV, evUn, evField, evExtract, evIndexA, evIndexV, evSlice, optInt, fillV, placeOf, thawed, del, List.contains_append, Option.bind_none, Option.bind_some, Bool.and_eq_true, decide_true, decide_false, Bool.not_eq_true', List.take_length, List.range_succ, List.range_zero, Option.some.injEq, ne_eq, not_false_eq_true, not_true_eq_false, List.all_cons, List.all_nil, isNilSlice, List.getElem?_toArray, beqT, beqF, Bool.cond_true, Bool.cond_false, or_self, true_or, or_true, or_false, false_or, plain, plainL, ask_true, ask_false, pickV_true, pickV_false, resolve_ptr, cellsJ, junkOk, evLook, evMap, evEnter, effEnter, findV, mapOf, keyOk, evFrame, unframe, closed, fixed, sameEs, pickObs, putObs, wit, sameWit, Option.isSome_some, den_regT, regG_no, frameG_no, frameG_yes, evNilCheck, te, einl, inls, efr]
    | cons r post =>
      have hlt : ((pre.length : Int) < rs.length) := by subst hp; simp; omega
      have hget : rs[pre.length]? = some r := by subst hp; simp
      have hw : IntKind.i64.wrap ((pre.length : Int) + 1) = ((pre ++ [r]).length : Int) := by rw [IntWalk.i64_in _ (by omega)]; simp
      simp only [Try.results108, hlt, Int.natCast_nonneg, Int.toNat_natCast, List.getElem?_map, hget, encRun, Option.getD_some, List.replicate, List.cons_append, List.nil_append, den_seq, den_region, den_block, den_cond, den_skip, den_ret, den_exit, evOps, evOp, evPlain, evVal, evMem, wantedV, St.eval, St.put, St.get, constV, List.set, List.getD_cons_zero, List.getD_cons_succ, Bool.false_eq_true, if_false, List.contains_nil, Bool.false_and, normally_some, andThen_normal, andThen_exit, andThen_ret, atBlock_normal, atBlock_exit, atBlock_ret, lenV, sliceOf, arrayOf, fieldsOf, onBool_true, onBool_false, after_normal, after_exit, after_ret, normOf, norm, firstRegion, look, maskFrom, evBin, evIndexS, evLoad, evVar, evStore, evFieldAddr, nameOf, St.alloc, St.drop, killL, kill, killAll, killObs, killOb, upd, cells?, part, retag, retagL, putIn, refFree, refFreeL, isNew, isNewL, Ty.isAgg, splice, idsL, ids, idsLL, reach, depth, St.dropL, outOfCall_some, atEnd_normal, atEnd_ret, resultsV, resultV, allM_nil, allM_cons, resolve_int, resolve_bool, resolve_lit, resolve_sl, resolve_fp, resolve_emp, resolve_agg, resolve_tup, resolve_clo, resolve_own, Option.map_some, Option.map_none, List.length_cons, List.length_nil, List.length_map, ↓reduceIte, List.contains_cons, Bool.or_false, Bool.false_or, Bool.or_true, Bool.true_or, Nat.reduceBEq, beq_self_eq_true, List.map_cons, List.map_nil, List.filter_cons, List.filter_nil, List.flatMap_cons, List.flatMap_nil, Bool.not_true, Bool.not_false, and_self, and_true, true_and, List.getElem?_cons_zero, List.getElem?_cons_succ, List.getElem?_nil, List.drop_succ_cons, List.drop_zero, List.take_succ_cons, List.take_zero, List.drop_nil, List.take_nil, List.append_nil, Nat.reduceAdd, Nat.reduceSub, Nat.reduceMul, Nat.reduceEqDiff, Nat.reduceLeDiff, Nat.le_refl, Option.getD_none, Bool.and_true, Bool.true_and, Bool.and_false, Bool.and_self, Nat.lt_irrefl, Nat.reduceLT, Nat.zero_add, evRegion_still, evE, effOf, effMem, effStore, effCall, effVar, effLit, effMake, effApp, Eff.ap, evCall, lend, evAppend, evLit, evMake, evNil, freeze, onto, dropO, elemsV, sized, evCmp, eqT, eqG, minV, evUn, evField, evExtract, evIndexA, evIndexV, evSlice, optInt, fillV, placeOf, thawed, del, List.contains_append, Option.bind_none, Option.bind_some, Bool.and_eq_true, decide_true, decide_false, Bool.not_eq_true', List.take_length, List.range_succ, List.range_zero, Option.some.injEq, ne_eq, not_false_eq_true, not_true_eq_false, List.all_cons, List.all_nil, isNilSlice, List.getElem?_toArray, beqT, beqF, Bool.cond_true, Bool.cond_false, or_self, true_or, or_true, or_false, false_or, plain, plainL, ask_true, ask_false, pickV_true, pickV_false, resolve_ptr, cellsJ, junkOk, evLook, evMap, evEnter, effEnter, findV, mapOf, keyOk, evFrame, unframe, closed, fixed, sameEs, pickObs, putObs, wit, sameWit, Option.isSome_some, den_regT, regG_no, frameG_no, frameG_yes, evNilCheck, te, einl, inls, efr]
      exact ⟨⟨(pre ++ [r], post), by simpa using hp⟩, by simp only [hw, ln, List.foldl_append, List.foldl_cons, List.foldl_nil], Nat.lt_succ_self _⟩

def validate (rs : List Run) : Int := if 40 < rs.length then 4 else if rs.all wellB = true then (if 1000000 < ln rs then 4 else 0) else 1

theorem c81 (t : Bool) (rs : List Run) (hn : rs.length ≤ 1000000000) : (orcω E X0).call 81 [.sl t (rs.map encRun)] = some (.int .i64 (validate rs)) := by
  refine call_of rfl fn81 rfl ?_
  by_cases h40 : (40 : Int) < rs.length
  · have hv : validate rs = 4 := by unfold validate; rw [if_pos (by omega)]
    simp only [Try.ntmps81, Try.results81, efc81, fc81, h40, hv, Option.getD_some, List.replicate, List.cons_append, List.nil_append, den_seq, den_region, den_block, den_cond, den_skip, den_ret, den_exit, evOps, evOp, evPlain, evVal, evMem, wantedV, St.eval, St.put, St.get, constV, List.set, List.getD_cons_zero, List.getD_cons_succ, Bool.false_eq_true, if_false, List.contains_nil, Bool.false_and, normally_some, andThen_normal, andThen_exit, andThen_ret, atBlock_normal, atBlock_exit, atBlock_ret, lenV, sliceOf, arrayOf, fieldsOf, onBool_true, onBool_false, after_normal, after_exit, after_ret, normOf, norm, firstRegion, look, maskFrom, evBin, evIndexS, evLoad, evVar, evStore, evFieldAddr, nameOf, St.alloc, St.drop, killL, kill, killAll, killObs, killOb, upd, cells?, part, retag, retagL, putIn, refFree, refFreeL, isNew, isNewL, Ty.isAgg, splice, idsL, ids, idsLL, reach, depth, St.dropL, outOfCall_some, atEnd_normal, atEnd_ret, resultsV, resultV, allM_nil, allM_cons, resolve_int, resolve_bool, resolve_lit, resolve_sl, resolve_fp, resolve_emp, resolve_agg, resolve_tup, resolve_clo, resolve_own, Option.map_some, Option.map_none, List.length_cons, List.length_nil, List.length_map, ↓reduceIte, List.contains_cons, Bool.or_false, Bool.false_or, Bool.or_true, Bool.true_or, Nat.reduceBEq, beq_self_eq_true, List.map_cons, List.map_nil, List.filter_cons, List.filter_nil, List.flatMap_cons, List.flatMap_nil, Bool.not_true, Bool.not_false, and_self, and_true, true_and, List.getElem?_cons_zero, List.getElem?_cons_succ, List.getElem?_nil, List.drop_succ_cons, List.drop_zero, List.take_succ_cons, List.take_zero, List.drop_nil, List.take_nil, List.append_nil, Nat.reduceAdd, Nat.reduceSub, Nat.reduceMul, Nat.reduceEqDiff, Nat.reduceLeDiff, Nat.le_refl, Option.getD_none, Bool.and_true, Bool.true_and, Bool.and_false, Bool.and_self, Nat.lt_irrefl, Nat.reduceLT, Nat.zero_add, evRegion_still, evE, effOf, effMem, effStore, effCall, effVar, effLit, effMake, effApp, Eff.ap, evCall, lend, evAppend, evLit, evMake, evNil, freeze, onto, dropO, elemsV, sized, evCmp, eqT, eqG, minV, evUn, evField, evExtract, evIndexA, evIndexV, evSlice, optInt, fillV, placeOf, thawed, del, List.contains_append, Option.bind_none, Option.bind_some, Bool.and_eq_true, decide_true, decide_false, Bool.not_eq_true', List.take_length, List.range_succ, List.range_zero, Option.some.injEq, ne_eq, not_false_eq_true, not_true_eq_false, List.all_cons, List.all_nil, isNilSlice, List.getElem?_toArray, beqT, beqF, Bool.cond_true, Bool.cond_false, or_self, true_or, or_true, or_false, false_or, plain, plainL, ask_true, ask_false, pickV_true, pickV_false, resolve_ptr, cellsJ, junkOk, evLook, evMap, evEnter, effEnter, findV, mapOf, keyOk, evFrame, unframe, closed, fixed, sameEs, pickObs, putObs, wit, sameWit, Option.isSome_some, den_regT, regG_no, frameG_no, frameG_yes, evNilCheck, te, einl, inls, efr]
  simp only [Try.ntmps81, Try.results81, efc81, fc81, h40, Option.getD_some, List.replicate, List.cons_append, List.nil_append, den_seq, den_region, den_block, den_cond, den_skip, den_ret, den_exit, evOps, evOp, evPlain, evVal, evMem, wantedV, St.eval, St.put, St.get, constV, List.set, List.getD_cons_zero, List.getD_cons_succ, Bool.false_eq_true, if_false, List.contains_nil, Bool.false_and, normally_some, andThen_normal, andThen_exit, andThen_ret, atBlock_normal, atBlock_exit, atBlock_ret, lenV, sliceOf, arrayOf, fieldsOf, onBool_true, onBool_false, after_normal, after_exit, after_ret, normOf, norm, firstRegion, look, maskFrom, evBin, evIndexS, evLoad, evVar, evStore, evFieldAddr, nameOf, St.alloc, St.drop, killL, kill, killAll, killObs, killOb, upd, cells?, part, retag, retagL, putIn, refFree, refFreeL, isNew, isNewL, Ty.isAgg, splice, idsL, ids, idsLL, reach, depth, St.dropL, outOfCall_some, atEnd_normal, atEnd_ret, resultsV, resultV, allM_nil, allM_cons, resolve_int, resolve_bool, resolve_lit, resolve_sl, resolve_fp, resolve_emp, resolve_agg, resolve_tup, resolve_clo, resolve_own, Option.map_some, Option.map_none, List.length_cons, List.length_nil, List.length_map, ↓reduceIte, List.contains_cons, Bool.or_false, Bool.false_or, Bool.or_true, Bool.true_or, Nat.reduceBEq, beq_self_eq_true, List.map_cons, List.map_nil, List.filter_cons, List.filter_nil, List.flatMap_cons, List.flatMap_nil, Bool.not_true, Bool.not_false, and_self, and_true, true_and, List.getElem?_cons_zero, List.getElem?_cons_succ, List.getElem?_nil, List.drop_succ_cons, List.drop_zero, List.take_succ_cons, List.take_zero, List.drop_nil, List.take_nil, List.append_nil, Nat.reduceAdd, Nat.reduceSub, Nat.reduceMul, Nat.reduceEqDiff, Nat.reduceLeDiff, Nat.le_refl, Option.getD_none, Bool.and_true, Bool.true_and, Bool.and_false, Bool.and_self, Nat.lt_irrefl, Nat.reduceLT, Nat.zero_add, evRegion_still, evE, effOf, effMem, effStore, effCall, effVar, effLit, effMake, effApp, Eff.ap, evCall, lend, evAppend, evLit, evMake, evNil, freeze, onto, dropO, elemsV, sized, evCmp, eqT, eqG, minV, evUn, evField, evExtract, evIndexA, evIndexV, evSlice, optInt, fillV, placeOf, thawed, del, List.contains_append, Option.bind_none, Option.bind_some, Bool.and_eq_true, decide_true, decide_false, Bool.not_eq_true', List.take_length, List.range_succ, List.range_zero, Option.some.injEq, ne_eq, not_false_eq_true, not_true_eq_false, List.all_cons, List.all_nil, isNilSlice, List.getElem?_toArray, beqT, beqF, Bool.cond_true, Bool.cond_false, or_self, true_or, or_true, or_false, false_or, plain, plainL, ask_true, ask_false, pickV_true, pickV_false, resolve_ptr, cellsJ, junkOk, evLook, evMap, evEnter, effEnter, findV, mapOf, keyOk, evFrame, unframe, closed, fixed, sameEs, pickObs, putObs, wit, sameWit, Option.isSome_some, den_regT, regG_no, frameG_no, frameG_yes, evNilCheck, te, einl, inls, efr]
  generalize hr : den E X0 _ 0 (Code.loop _) _ = r
  refine den_loop_post (K := fun x => outOfCall (atEnd E _ (andThen (atBlock 0 x) _)) = some _) hr (α := { p : List Run × List Run // rs = p.1 ++ p.2 ∧ p.1.all wellB = true })
    (fun a => { slots := [.sl t (rs.map encRun), .junk, .junk, .junk, .junk, .junk, .junk, .junk, .junk, .sl t (rs.map encRun), .int .i64 rs.length, .int .i64 a.1.1.length] ++ List.replicate 31 .junk, outer := [], objs := [] })
    (fun a => a.1.2.length) ⟨([], rs), rfl, rfl⟩ ?_ ?_ <;> clear hr
  · simp only [Option.getD_some, List.replicate, List.cons_append, List.nil_append, den_seq, den_region, den_block, den_cond, den_skip, den_ret, den_exit, evOps, evOp, evPlain, evVal, evMem, wantedV, St.eval, St.put, St.get, constV, List.set, List.getD_cons_zero, List.getD_cons_succ, Bool.false_eq_true, if_false, List.contains_nil, Bool.false_and, normally_some, andThen_normal, andThen_exit, andThen_ret, atBlock_normal, atBlock_exit, atBlock_ret, lenV, sliceOf, arrayOf, fieldsOf, onBool_true, onBool_false, after_normal, after_exit, after_ret, normOf, norm, firstRegion, look, maskFrom, evBin, evIndexS, evLoad, evVar, evStore, evFieldAddr, nameOf, St.alloc, St.drop, killL, kill, killAll, killObs, killOb, upd, cells?, part, retag, retagL, putIn, refFree, refFreeL, isNew, isNewL, Ty.isAgg, splice, idsL, ids, idsLL, reach, depth, St.dropL, outOfCall_some, atEnd_normal, atEnd_ret, resultsV, resultV, allM_nil, allM_cons, resolve_int, resolve_bool, resolve_lit, resolve_sl, resolve_fp, resolve_emp, resolve_agg, resolve_tup, resolve_clo, resolve_own, Option.map_some, Option.map_none, List.length_cons, List.length_nil, List.length_map, ↓reduceIte, List.contains_cons, Bool.or_false, Bool.false_or, Bool.or_true, Bool.true_or, Nat.reduceBEq, beq_self_eq_true, List.map_cons, List.map_nil, List.filter_cons, List.filter_nil, List.flatMap_cons, List.flatMap_nil, Bool.not_true, Bool.not_false, and_self, and_true, true_and, List.getElem?_cons_zero, List.getElem?_cons_succ, List.getElem?_nil, List.drop_succ_cons, List.drop_zero, List.take_succ_cons, List.take_zero, List.drop_nil, List.take_nil, List.append_nil, Nat.reduceAdd, Nat.reduceSub, Nat.reduceMul, Nat.reduceEqDiff, Nat.reduceLeDiff, Nat.le_refl, Option.getD_none, Bool.and_true, Bool.true_and, Bool.and_false, Bool.and_self, Nat.lt_irrefl, Nat.reduceLT, Nat.zero_add, evRegion_still, evE, effOf, effMem, effStore, effCall, effVar, effLit, effMake, effApp, Eff.ap, evCall, lend, evAppend, evLit, evMake, evNil, freeze, onto, dropO, elemsV, sized, evCmp, eqT, eqG, minV, evUn, evField, evExtract, evIndexA, evIndexV, evSlice, optInt, fillV, placeOf, thawed, del, List.contains_append, Option.bind_none, Option.bind_some, Bool.and_eq_true, decide_true, decide_false, Bool.not_eq_true', List.take_length, List.range_succ, List.range_zero, Option.some.injEq, ne_eq, not_false_eq_true, not_true_eq_false, List.all_cons, List.all_nil, isNilSlice, List.getElem?_toArray, beqT, beqF, Bool.cond_true, Bool.cond_false, or_self, true_or, or_true, or_false, false_or, plain, plainL, ask_true, ask_false, pickV_true, pickV_false, resolve_ptr, cellsJ, junkOk, evLook, evMap, evEnter, effEnter, findV, mapOf, keyOk, evFrame, unframe, closed, fixed, sameEs, pickObs, putObs, wit, sameWit, Option.isSome_some, den_regT, regG_no, frameG_no, frameG_yes, evNilCheck, te, einl, inls, efr, Int.natCast_zero]
  · rintro ⟨⟨pre, post⟩, hp, hpre⟩
    cases post with
    | nil =>
      obtain rfl : rs = pre := by simpa using hp
      have hc := c82 false rs hn
      by_cases hl : 1000000 < ln rs
      · have hv : validate rs = 4 := by unfold validate; rw [if_neg (by omega), if_pos hpre, if_pos hl]
        simp only [Try.results81, Int.lt_irrefl, hc, hl, hv, Option.getD_some, List.replicate, List.cons_append, List.nil_append, den_seq, den_region, den_block, den_cond, den_skip, den_ret, den_exit, evOps, evOp, evPlain, evVal, evMem, wantedV, St.eval, St.put, St.get, constV, List.set, List.getD_cons_zero, List.getD_cons_succ, Bool.false_eq_true, if_false, List.contains_nil, Bool.false_and, normally_some, andThen_normal, andThen_exit, andThen_ret, atBlock_normal, atBlock_exit, atBlock_ret, lenV, sliceOf, arrayOf, fieldsOf, onBool_true, onBool_false, after_normal, after_exit, after_ret, normOf, norm, firstRegion, look, maskFrom, evBin, evIndexS, evLoad, evVar, evStore, evFieldAddr, nameOf, St.alloc, St.drop, killL, kill, killAll, killObs, killOb, upd, cells?, part, retag, retagL, putIn, refFree, refFreeL, isNew, isNewL, Ty.isAgg, splice, idsL, ids, idsLL, reach, depth, St.dropL, outOfCall_some, atEnd_normal, atEnd_ret, resultsV, resultV, allM_nil, allM_cons, resolve_int, resolve_bool, resolve_lit, resolve_sl, resolve_fp, resolve_emp, resolve_agg, resolve_tup, resolve_clo, resolve_own, Option.map_some, Option.map_none, List.length_cons, List.length_nil, List.length_map, ↓reduceIte, List.contains_cons, Bool.or_false, Bool.false_or, Bool.or_true, Bool.true_or, Nat.reduceBEq, beq_self_eq_true, List.map_cons, List.map_nil, List.filter_cons, List.filter_nil, List.flatMap_cons, List.flatMap_nil, Bool.not_true, Bool.not_false, and_self, and_true, true_and, List.getElem?_cons_zero, List.getElem?_cons_succ, List.getElem?_nil, List.drop_succ_cons, List.drop_zero, List.take_succ_cons, List.take_zero, List.drop_nil, List.take_nil, List.append_nil, Nat.reduceAdd, Nat.reduceSub, Nat.reduceMul, Nat.reduceEqDiff, Nat.reduceLeDiff, Nat.le_refl, Option.getD_none, Bool.and_true, Bool.true_and, Bool.and_false, Bool.and_self, Nat.lt_irrefl, Nat.reduceLT, Nat.zero_add, evRegion_still, evE, effOf, effMem, effStore, effCall, effVar, effLit, effMake, effApp, Eff.ap, evCall, lend, evAppend, evLit, evMake, evNil, freeze, onto, dropO, elemsV, sized, evCmp, eqT, eqG, minV, evUn, evField, evExtract, evIndexA, evIndexV, evSlice, optInt, fillV, placeOf, thawed, del, List.contains_append, Option.bind_none, Option.bind_some, Bool.and_eq_true, decide_true, decide_false, Bool.not_eq_true', List.take_length, List.range_succ, List.range_zero, Option.some.injEq, ne_eq, not_false_eq_true, not_true_eq_false, List.all_cons, List.all_nil, isNilSlice, List.getElem?_toArray, beqT, beqF, Bool.cond_true, Bool.cond_false, or_self, true_or, or_true, or_false, false_or, plain, plainL, ask_true, ask_false, pickV_true, pickV_false, resolve_ptr, cellsJ, junkOk, evLook, evMap, evEnter, effEnter, findV, mapOf, keyOk, evFrame, unframe, closed, fixed, sameEs, pickObs, putObs, wit, sameWit, Option.isSome_some, den_regT, regG_no, frameG_no, frameG_yes, evNilCheck, te, einl, inls, efr]
      · have hv : validate rs = 0 := by unfold validate; rw [if_neg (by omega), if_pos hpre, if_neg hl]
        simp only [Try.results81, Int.lt_irrefl, hc, hl, hv, Option.getD_some, List.replicate, List.cons_append, List.nil_append, den_seq, den_region, den_block, den_cond, den_skip, den_ret, den_exit, evOps, evOp, evPlain, evVal, evMem, wantedV, St.eval, St.put, St.get, constV, List.set, List.getD_cons_zero, List.getD_cons_succ, Bool.false_eq_true, if_false, List.contains_nil, Bool.false_and, normally_some, andThen_normal, andThen_exit, andThen_ret, atBlock_normal, atBlock_exit, atBlock_ret, lenV, sliceOf, arrayOf, fieldsOf, onBool_true, onBool_false, after_normal, after_exit, after_ret, normOf, norm, firstRegion, look, maskFrom, evBin, evIndexS, evLoad, evVar, evStore, evFieldAddr, nameOf, St.alloc, St.drop, killL, kill, killAll, killObs, killOb, upd, cells?, part, retag, retagL, putIn, refFree, refFreeL, isNew, isNewL, Ty.isAgg, splice, idsL, ids, idsLL, reach, depth, St.dropL, outOfCall_some, atEnd_normal, atEnd_ret, resultsV, resultV, allM_nil, allM_cons, resolve_int, resolve_bool, resolve_lit, resolve_sl, resolve_fp, resolve_emp, resolve_agg, resolve_tup, resolve_clo, resolve_own, Option.map_some, Option.map_none, List.length_cons, List.length_nil, List.length_map, ↓reduceIte, List.contains_cons, Bool.or_false, Bool.false_or, Bool.or_true, Bool.true_or, Nat.reduceBEq, beq_self_eq_true, List.map_cons, List.map_nil, List.filter_cons, List.filter_nil, List.flatMap_cons, List.flatMap_nil, Bool.not_true, Bool.not_false, and_self, and_true, true_and, List.getElem?_cons_zero, List.getElem?_cons_succ, List.getElem?_nil, List.drop_succ_cons, List.drop_zero, List.take_succ_cons, List.take_zero, List.drop_nil, List.take_nil, List.append_nil, Nat.reduceAdd, Nat.reduceSub, Nat.reduceMul, Nat.reduceEqDiff, Nat.reduceLeDiff, Nat.le_refl, Option.getD_none, Bool.and_true, Bool.true_and, Bool.and_false, Bool.and_self, Nat.lt_irrefl, Nat.reduceLT, Nat.zero_add, evRegion_still, evE, effOf, effMem, effStore, effCall, effVar, effLit, effMake, effApp, Eff.ap, evCall, lend, evAppend, evLit, evMake, evNil, freeze, onto, dropO, elemsV, sized, evCmp, eqT, eqG, minV, evUn, evField, evExtract, evIndexA, evIndexV, evSlice, optInt, fillV, placeOf, thawed, del, List.contains_append, Option.bind_none, Option.bind_some, Bool.and_eq_true, decide_true, decide_false, Bool.not_eq_true', List.take_length, List.range_succ, List.range_zero, Option.some.injEq, ne_eq, not_false_eq_true, not_true_eq_false, List.all_cons, List.all_nil, isNilSlice, List.getElem?_toArray, beqT, beqF, Bool.cond_true, Bool.cond_false, or_self, true_or, or_true, or_false, false_or, plain, plainL, ask_true, ask_false, pickV_true, pickV_false, resolve_ptr, cellsJ, junkOk, evLook, evMap, evEnter, effEnter, findV, mapOf, keyOk, evFrame, unframe, closed, fixed, sameEs, pickObs, putObs, wit, sameWit, Option.isSome_some, den_regT, regG_no, frameG_no, frameG_yes, evNilCheck, te, einl, inls, efr]
    | cons r post =>
      have hlt : ((pre.length : Int) < rs.length) := by subst hp; simp; omega
      have hget : rs[pre.length]? = some r := by subst hp; simp
      have hw : IntKind.i64.wrap ((pre.length : Int) + 1) = ((pre ++ [r]).length : Int) := by rw [IntWalk.i64_in _ (by omega)]; simp
      have hbad : wellB r = false → validate rs = 1 := fun hb => by
        unfold validate; rw [if_neg (by omega), if_neg]; subst hp; simp [hb]
      cases h1 : inB r.len 1 1000000 with
      | false =>
        have hv := hbad (by simp [wellB, h1])
        simp only [Try.results81, hlt, Int.natCast_nonneg, Int.toNat_natCast, List.getElem?_map, hget, encRun, c109, h1, hv, Option.getD_some, List.replicate, List.cons_append, List.nil_append, den_seq, den_region, den_block, den_cond, den_skip, den_ret, den_exit, evOps, evOp, evPlain, evVal, evMem, wantedV, St.eval, St.put, St.get, constV, List.set, List.getD_cons_zero, List.getD_cons_succ, Bool.false_eq_true, if_false, List.contains_nil, Bool.false_and, normally_some, andThen_normal, andThen_exit, andThen_ret, atBlock_normal, atBlock_exit, atBlock_ret, lenV, sliceOf, arrayOf, fieldsOf, onBool_true, onBool_false, after_normal, after_exit, after_ret, normOf, norm, firstRegion, look, maskFrom, evBin, evIndexS, evLoad, evVar, evStore, evFieldAddr, nameOf, St.alloc, St.drop, killL, kill, killAll, killObs, killOb, upd, cells?, part, retag, retagL, putIn, refFree, refFreeL, isNew, isNewL, Ty.isAgg, splice, idsL, ids, idsLL, reach, depth, St.dropL, outOfCall_some, atEnd_normal, atEnd_ret, resultsV, resultV, allM_nil, allM_cons, resolve_int, resolve_bool, resolve_lit, resolve_sl, resolve_fp, resolve_emp, resolve_agg, resolve_tup, resolve_clo, resolve_own, Option.map_some, Option.map_none, List.length_cons, List.length_nil, List.length_map, ↓reduceIte, List.contains_cons, Bool.or_false, Bool.false_or, Bool.or_true, Bool.true_or, Nat.reduceBEq, beq_self_eq_true, List.map_cons, List.map_nil, List.filter_cons, List.filter_nil, List.flatMap_cons, List.flatMap_nil, Bool.not_true, Bool.not_false, and_self, and_true, true_and, List.getElem?_cons_zero, List.getElem?_cons_succ, List.getElem?_nil, List.drop_succ_cons, List.drop_zero, List.take_succ_cons, List.take_zero, List.drop_nil, List.take_nil, List.append_nil, Nat.reduceAdd, Nat.reduceSub, Nat.reduceMul, Nat.reduceEqDiff, Nat.reduceLeDiff, Nat.le_refl, Option.getD_none, Bool.and_true, Bool.true_and, Bool.and_false, Bool.and_self, Nat.lt_irrefl, Nat.reduceLT, Nat.zero_add, evRegion_still, evE, effOf, effMem, effStore, effCall, effVar, effLit, effMake, effApp, Eff.ap, evCall, lend, evAppend, evLit, evMake, evNil, freeze, onto, dropO, elemsV, sized, evCmp, eqT, eqG, minV, evUn, evField, evExtract, evIndexA, evIndexV, evSlice, optInt, fillV, placeOf, thawed, del, List.contains_append, Option.bind_none, Option.bind_some, Bool.and_eq_true, decide_true, decide_false, Bool.not_eq_true', List.take_length, List.range_succ, List.range_zero, Option.some.injEq, ne_eq, not_false_eq_true, not_true_eq_false, List.all_cons, List.all_nil, isNilSlice, List.getElem?_toArray, beqT, beqF, Bool.cond_true, Bool.cond_false, or_self, true_or, or_true, or_false, false_or, plain, plainL, ask_true, ask_false, pickV_true, pickV_false, resolve_ptr, cellsJ, junkOk, evLook, evMap, evEnter, effEnter, findV, mapOf, keyOk, evFrame, unframe, closed, fixed, sameEs, pickObs, putObs, wit, sameWit, Option.isSome_some, den_regT, regG_no, frameG_no, frameG_yes, evNilCheck, te, einl, inls, efr]
      | true =>
      cases h2 : inB r.thick 1 1000 with
      | false =>
        have hv := hbad (by simp [wellB, h2])
        simp only [Try.results81, hlt, Int.natCast_nonneg, Int.toNat_natCast, List.getElem?_map, hget, encRun, c109, h1, h2, hv, Option.getD_some, List.replicate, List.cons_append, List.nil_append, den_seq, den_region, den_block, den_cond, den_skip, den_ret, den_exit, evOps, evOp, evPlain, evVal, evMem, wantedV, St.eval, St.put, St.get, constV, List.set, List.getD_cons_zero, List.getD_cons_succ, Bool.false_eq_true, if_false, List.contains_nil, Bool.false_and, normally_some, andThen_normal, andThen_exit, andThen_ret, atBlock_normal, atBlock_exit, atBlock_ret, lenV, sliceOf, arrayOf, fieldsOf, onBool_true, onBool_false, after_normal, after_exit, after_ret, normOf, norm, firstRegion, look, maskFrom, evBin, evIndexS, evLoad, evVar, evStore, evFieldAddr, nameOf, St.alloc, St.drop, killL, kill, killAll, killObs, killOb, upd, cells?, part, retag, retagL, putIn, refFree, refFreeL, isNew, isNewL, Ty.isAgg, splice, idsL, ids, idsLL, reach, depth, St.dropL, outOfCall_some, atEnd_normal, atEnd_ret, resultsV, resultV, allM_nil, allM_cons, resolve_int, resolve_bool, resolve_lit, resolve_sl, resolve_fp, resolve_emp, resolve_agg, resolve_tup, resolve_clo, resolve_own, Option.map_some, Option.map_none, List.length_cons, List.length_nil, List.length_map, ↓reduceIte, List.contains_cons, Bool.or_false, Bool.false_or, Bool.or_true, Bool.true_or, Nat.reduceBEq, beq_self_eq_true, List.map_cons, List.map_nil, List.filter_cons, List.filter_nil, List.flatMap_cons, List.flatMap_nil, Bool.not_true, Bool.not_false, and_self, and_true, true_and, List.getElem?_cons_zero, List.getElem?_cons_succ, List.getElem?_nil, List.drop_succ_cons, List.drop_zero, List.take_succ_cons, List.take_zero, List.drop_nil, List.take_nil, List.append_nil, Nat.reduceAdd, Nat.reduceSub, Nat.reduceMul, Nat.reduceEqDiff, Nat.reduceLeDiff, Nat.le_refl, Option.getD_none, Bool.and_true, Bool.true_and, Bool.and_false, Bool.and_self, Nat.lt_irrefl, Nat.reduceLT, Nat.zero_add, evRegion_still, evE, effOf, effMem, effStore, effCall, effVar, effLit, effMake, effApp, Eff.ap, evCall, lend, evAppend, evLit, evMake, evNil, freeze, onto, dropO, elemsV, sized, evCmp, eqT, eqG, minV, evUn, evField, evExtract, evIndexA, evIndexV, evSlice, optInt, fillV, placeOf, thawed, del, List.contains_append, Option.bind_none, Option.bind_some, Bool.and_eq_true, decide_true, decide_false, Bool.not_eq_true', List.take_length, List.range_succ, List.range_zero, Option.some.injEq, ne_eq, not_false_eq_true, not_true_eq_false, List.all_cons, List.all_nil, isNilSlice, List.getElem?_toArray, beqT, beqF, Bool.cond_true, Bool.cond_false, or_self, true_or, or_true, or_false, false_or, plain, plainL, ask_true, ask_false, pickV_true, pickV_false, resolve_ptr, cellsJ, junkOk, evLook, evMap, evEnter, effEnter, findV, mapOf, keyOk, evFrame, unframe, closed, fixed, sameEs, pickObs, putObs, wit, sameWit, Option.isSome_some, den_regT, regG_no, frameG_no, frameG_yes, evNilCheck, te, einl, inls, efr]
      | true =>
      cases h3 : inB r.shade 0 99 with
      | false =>
        have hv := hbad (by simp [wellB, h3])
        simp only [Try.results81, hlt, Int.natCast_nonneg, Int.toNat_natCast, List.getElem?_map, hget, encRun, c109, h1, h2, h3, hv, Option.getD_some, List.replicate, List.cons_append, List.nil_append, den_seq, den_region, den_block, den_cond, den_skip, den_ret, den_exit, evOps, evOp, evPlain, evVal, evMem, wantedV, St.eval, St.put, St.get, constV, List.set, List.getD_cons_zero, List.getD_cons_succ, Bool.false_eq_true, if_false, List.contains_nil, Bool.false_and, normally_some, andThen_normal, andThen_exit, andThen_ret, atBlock_normal, atBlock_exit, atBlock_ret, lenV, sliceOf, arrayOf, fieldsOf, onBool_true, onBool_false, after_normal, after_exit, after_ret, normOf, norm, firstRegion, look, maskFrom, evBin, evIndexS, evLoad, evVar, evStore, evFieldAddr, nameOf, St.alloc, St.drop, killL, kill, killAll, killObs, killOb, upd, cells?, part, retag, retagL, putIn, refFree, refFreeL, isNew, isNewL, Ty.isAgg, splice, idsL, ids, idsLL, reach, depth, St.dropL, outOfCall_some, atEnd_normal, atEnd_ret, resultsV, resultV, allM_nil, allM_cons, resolve_int, resolve_bool, resolve_lit, resolve_sl, resolve_fp, resolve_emp, resolve_agg, resolve_tup, resolve_clo, resolve_own, Option.map_some, Option.map_none, List.length_cons, List.length_nil, List.length_map, ↓reduceIte, List.contains_cons, Bool.or_false, Bool.false_or, Bool.or_true, Bool.true_or, Nat.reduceBEq, beq_self_eq_true, List.map_cons, List.map_nil, List.filter_cons, List.filter_nil, List.flatMap_cons, List.flatMap_nil, Bool.not_true, Bool.not_false, and_self, and_true, true_and, List.getElem?_cons_zero, List.getElem?_cons_succ, List.getElem?_nil, List.drop_succ_cons, List.drop_zero, List.take_succ_cons, List.take_zero, List.drop_nil, List.take_nil, List.append_nil, Nat.reduceAdd, Nat.reduceSub, Nat.reduceMul, Nat.reduceEqDiff, Nat.reduceLeDiff, Nat.le_refl, Option.getD_none, Bool.and_true, Bool.true_and, Bool.and_false, Bool.and_self, Nat.lt_irrefl, Nat.reduceLT, Nat.zero_add, evRegion_still, evE, effOf, effMem, effStore, effCall, effVar, effLit, effMake, effApp, Eff.ap, evCall, lend, evAppend, evLit, evMake, evNil, freeze, onto, dropO, elemsV, sized, evCmp, eqT, eqG, minV, evUn, evField, evExtract, evIndexA, evIndexV, evSlice, optInt, fillV, placeOf, thawed, del, List.contains_append, Option.bind_none, Option.bind_some, Bool.and_eq_true, decide_true, decide_false, Bool.not_eq_true', List.take_length, List.range_succ, List.range_zero, Option.some.injEq, ne_eq, not_false_eq_true, not_true_eq_false, List.all_cons, List.all_nil, isNilSlice, List.getElem?_toArray, beqT, beqF, Bool.cond_true, Bool.cond_false, or_self, true_or, or_true, or_false, false_or, plain, plainL, ask_true, ask_false, pickV_true, pickV_false, resolve_ptr, cellsJ, junkOk, evLook, evMap, evEnter, effEnter, findV, mapOf, keyOk, evFrame, unframe, closed, fixed, sameEs, pickObs, putObs, wit, sameWit, Option.isSome_some, den_regT, regG_no, frameG_no, frameG_yes, evNilCheck, te, einl, inls, efr]
      | true =>
      cases h4 : inB r.flaw 0 15 with
      | false =>
        have hv := hbad (by simp [wellB, h4])
        simp only [Try.results81, hlt, Int.natCast_nonneg, Int.toNat_natCast, List.getElem?_map, hget, encRun, c109, h1, h2, h3, h4, hv, Option.getD_some, List.replicate, List.cons_append, List.nil_append, den_seq, den_region, den_block, den_cond, den_skip, den_ret, den_exit, evOps, evOp, evPlain, evVal, evMem, wantedV, St.eval, St.put, St.get, constV, List.set, List.getD_cons_zero, List.getD_cons_succ, Bool.false_eq_true, if_false, List.contains_nil, Bool.false_and, normally_some, andThen_normal, andThen_exit, andThen_ret, atBlock_normal, atBlock_exit, atBlock_ret, lenV, sliceOf, arrayOf, fieldsOf, onBool_true, onBool_false, after_normal, after_exit, after_ret, normOf, norm, firstRegion, look, maskFrom, evBin, evIndexS, evLoad, evVar, evStore, evFieldAddr, nameOf, St.alloc, St.drop, killL, kill, killAll, killObs, killOb, upd, cells?, part, retag, retagL, putIn, refFree, refFreeL, isNew, isNewL, Ty.isAgg, splice, idsL, ids, idsLL, reach, depth, St.dropL, outOfCall_some, atEnd_normal, atEnd_ret, resultsV, resultV, allM_nil, allM_cons, resolve_int, resolve_bool, resolve_lit, resolve_sl, resolve_fp, resolve_emp, resolve_agg, resolve_tup, resolve_clo, resolve_own, Option.map_some, Option.map_none, List.length_cons, List.length_nil, List.length_map, ↓reduceIte, List.contains_cons, Bool.or_false, Bool.false_or, Bool.or_true, Bool.true_or, Nat.reduceBEq, beq_self_eq_true, List.map_cons, List.map_nil, List.filter_cons, List.filter_nil, List.flatMap_cons, List.flatMap_nil, Bool.not_true, Bool.not_false, and_self, and_true, true_and, List.getElem?_cons_zero, List.getElem?_cons_succ, List.getElem?_nil, List.drop_succ_cons, List.drop_zero, List.take_succ_cons, List.take_zero, List.drop_nil, List.take_nil, List.append_nil, Nat.reduceAdd, Nat.reduceSub, Nat.reduceMul, Nat.reduceEqDiff, Nat.reduceLeDiff, Nat.le_refl, Option.getD_none, Bool.and_true, Bool.true_and, Bool.and_false, Bool.and_self, Nat.lt_irrefl, Nat.reduceLT, Nat.zero_add, evRegion_still, evE, effOf, effMem, effStore, effCall, effVar, effLit, effMake, effApp, Eff.ap, evCall, lend, evAppend, evLit, evMake, evNil, freeze, onto, dropO, elemsV, sized, evCmp, eqT, eqG, minV, evUn, evField, evExtract, evIndexA, evIndexV, evSlice, optInt, fillV, placeOf, thawed, del, List.contains_append, Option.bind_none, Option.bind_some, Bool.and_eq_true, decide_true, decide_false, Bool.not_eq_true', List.take_length, List.range_succ, List.range_zero, Option.some.injEq, ne_eq, not_false_eq_true, not_true_eq_false, List.all_cons, List.all_nil, isNilSlice, List.getElem?_toArray, beqT, beqF, Bool.cond_true, Bool.cond_false, or_self, true_or, or_true, or_false, false_or, plain, plainL, ask_true, ask_false, pickV_true, pickV_false, resolve_ptr, cellsJ, junkOk, evLook, evMap, evEnter, effEnter, findV, mapOf, keyOk, evFrame, unframe, closed, fixed, sameEs, pickObs, putObs, wit, sameWit, Option.isSome_some, den_regT, regG_no, frameG_no, frameG_yes, evNilCheck, te, einl, inls, efr]
      | true =>
        simp only [Try.results81, hlt, Int.natCast_nonneg, Int.toNat_natCast, List.getElem?_map, hget, encRun, c109, h1, h2, h3, h4, Option.getD_some, List.replicate, List.cons_append, List.nil_append, den_seq, den_region, den_block, den_cond, den_skip, den_ret, den_exit, evOps, evOp, evPlain, evVal, evMem, wantedV, St.eval, St.put, St.get, constV, List.set, List.getD_cons_zero, List.getD_cons_succ, Bool.false_eq_true, if_false, List.contains_nil, Bool.false_and, normally_some, andThen_normal, andThen_exit, andThen_ret, atBlock_normal, atBlock_exit, atBlock_ret, lenV, sliceOf, arrayOf, fieldsOf, onBool_true, onBool_false, after_normal, after_exit, after_ret, normOf, norm, firstRegion, look, maskFrom, evBin, evIndexS, evLoad, evVar, evStore, evFieldAddr, nameOf, St.alloc, St.drop, killL, kill, killAll, killObs, killOb, upd, cells?, part, retag, retagL, putIn, refFree, refFreeL, isNew, isNewL, Ty.isAgg, splice, idsL, ids, idsLL, reach, depth, St.dropL, outOfCall_some, atEnd_normal, atEnd_ret, resultsV, resultV, allM_nil, allM_cons, resolve_int, resolve_bool, resolve_lit, resolve_sl, resolve_fp, resolve_emp, resolve_agg, resolve_tup, resolve_clo, resolve_own, Option.map_some, Option.map_none, List.length_cons, List.length_nil, List.length_map, ↓reduceIte, List.contains_cons, Bool.or_false, Bool.false_or, Bool.or_true, Bool.true_or, Nat.reduceBEq, beq_self_eq_true, List.map_cons, List.map_nil, List.filter_cons, List.filter_nil, List.flatMap_cons, List.flatMap_nil, Bool.not_true, Bool.not_false, and_self, and_true, true_and, List.getElem?_cons_zero, List.getElem?_cons_succ, List.getElem?_nil, List.drop_succ_cons, List.drop_zero, List.take_succ_cons, List.take_zero, List.drop_nil, List.take_nil, List.append_nil, Nat.reduceAdd, Nat.reduceSub, Nat.reduceMul, Nat.reduceEqDiff, Nat.reduceLeDiff, Nat.le_refl, Option.getD_none, Bool.and_true, Bool.true_and, Bool.and_false, Bool.and_self, Nat.lt_irrefl, Nat.reduceLT, Nat.zero_add, evRegion_still, evE, effOf, effMem, effStore, effCall, effVar, effLit, effMake, effApp, Eff.ap, evCall, lend, evAppend, evLit, evMake, evNil, freeze, onto, dropO, elemsV, sized, evCmp, eqT, eqG, minV, evUn, evField, evExtract, evIndexA, evIndexV, evSlice, optInt, fillV, placeOf, thawed, del, List.contains_append, Option.bind_none, Option.bind_some, Bool.and_eq_true, decide_true, decide_false, Bool.not_eq_true', List.take_length, List.range_succ, List.range_zero, Option.some.injEq, ne_eq, not_false_eq_true, not_true_eq_false, List.all_cons, List.all_nil, isNilSlice, List.getElem?_toArray, beqT, beqF, Bool.cond_true, Bool.cond_false, or_self, true_or, or_true, or_false, false_or, plain, plainL, ask_true, ask_false, pickV_true, pickV_false, resolve_ptr, cellsJ, junkOk, evLook, evMap, evEnter, effEnter, findV, mapOf, keyOk, evFrame, unframe, closed, fixed, sameEs, pickObs, putObs, wit, sameWit, Option.isSome_some, den_regT, regG_no, frameG_no, frameG_yes, evNilCheck, te, einl, inls, efr]
        exact ⟨⟨(pre ++ [r], post), by simpa using hp, by simp [hpre, wellB, h1, h2, h3, h4]⟩, by simp only [hw, Option.getD_some, List.replicate, List.cons_append, List.nil_append, den_seq, den_region, den_block, den_cond, den_skip, den_ret, den_exit, evOps, evOp, evPlain, evVal, evMem, wantedV, St.eval, St.put, St.get, constV, List.set, List.getD_cons_zero, List.getD_cons_succ, Bool.false_eq_true, if_false, List.contains_nil, Bool.false_and, normally_some, andThen_normal, andThen_exit, andThen_ret, atBlock_normal, atBlock_exit, atBlock_ret, lenV, sliceOf, arrayOf, fieldsOf, onBool_true, onBool_false, after_normal, after_exit, after_ret, normOf, norm, firstRegion, look, maskFrom, evBin, evIndexS, evLoad, evVar, evStore, evFieldAddr, nameOf, St.alloc, St.drop, killL, kill, killAll, killObs, killOb, upd, cells?, part, retag, retagL, putIn, refFree, refFreeL, isNew, isNewL, Ty.isAgg, splice, idsL, ids, idsLL, reach, depth, St.dropL, outOfCall_some, atEnd_normal, atEnd_ret, resultsV, resultV, allM_nil, allM_cons, resolve_int, resolve_bool, resolve_lit, resolve_sl, resolve_fp, resolve_emp, resolve_agg, resolve_tup, resolve_clo, resolve_own, Option.map_some, Option.map_none, List.length_cons, List.length_nil, List.length_map, ↓reduceIte, List.contains_cons, Bool.or_false, Bool.false_or, Bool.or_true, Bool.true_or, Nat.reduceBEq, beq_self_eq_true, List.map_cons, List.map_nil, List.filter_cons, List.filter_nil, List.flatMap_cons, List.flatMap_nil, Bool.not_true, Bool.not_false, and_self, and_true, true_and, List.getElem?_cons_zero, List.getElem?_cons_succ, List.getElem?_nil, List.drop_succ_cons, List.drop_zero, List.take_succ_cons, List.take_zero, List.drop_nil, List.take_nil, List.append_nil, Nat.reduceAdd, Nat.reduceSub, Nat.reduceMul, Nat.reduceEqDiff, Nat.reduceLeDiff, Nat.le_refl, Option.getD_none, Bool.and_true, Bool.true_and, Bool.and_false, Bool.and_self, Nat.lt_irrefl, Nat.reduceLT, Nat.zero_add, evRegion_still, evE, effOf, effMem, effStore, effCall, effVar, effLit, effMake, effApp, Eff.ap, evCall, lend, evAppend, evLit, evMake, evNil, freeze, onto, dropO, elemsV, sized, evCmp, eqT, eqG, minV, evUn, evField, evExtract, evIndexA, evIndexV, evSlice, optInt, fillV, placeOf, thawed, del, List.contains_append, Option.bind_none, Option.bind_some, Bool.and_eq_true, decide_true, decide_false, Bool.not_eq_true', List.take_length, List.range_succ, List.range_zero, Option.some.injEq, ne_eq, not_false_eq_true, not_true_eq_false, List.all_cons, List.all_nil, isNilSlice, List.getElem?_toArray, beqT, beqF, Bool.cond_true, Bool.cond_false, or_self, true_or, or_true, or_false, false_or, plain, plainL, ask_true, ask_false, pickV_true, pickV_false, resolve_ptr, cellsJ, junkOk, evLook, evMap, evEnter, effEnter, findV, mapOf, keyOk, evFrame, unframe, closed, fixed, sameEs, pickObs, putObs, wit, sameWit, Option.isSome_some, den_regT, regG_no, frameG_no, frameG_yes, evNilCheck, te, einl, inls, efr], Nat.lt_succ_self _⟩

end Go.AM.B
end

section
namespace Go.AM.B
open Go Go.Proofs

theorem c107 (t : Bool) (rs : List Run) (hn : rs.length ≤ 1000000000) : (orcω E X0).call 107 [.sl t (rs.map encRun)] = some (.int .i64 (validate rs)) := by
  refine call_of rfl fn107 rfl ?_
  by_cases h40 : (40 : Int) < rs.length
  · have hv : validate rs = 4 := by unfold validate; rw [if_pos (by omega)]
    simp only [Try.ntmps107, Try.results107, efc107, fc107, h40, hv, Option.getD_some, List.replicate, List.cons_append, List.nil_append, den_seq, den_region, den_block, den_cond, den_skip, den_ret, den_exit, evOps, evOp, evPlain, evVal, evMem, wantedV, St.eval, St.put, St.get, constV, List.set, List.getD_cons_zero, List.getD_cons_succ, Bool.false_eq_true, if_false, List.contains_nil, Bool.false_and, normally_some, andThen_normal, andThen_exit, andThen_ret, atBlock_normal, atBlock_exit, atBlock_ret, lenV, sliceOf, arrayOf, fieldsOf, onBool_true, onBool_false, after_normal, after_exit, after_ret, normOf, norm, firstRegion, look, maskFrom, evBin, evIndexS, evLoad, evVar, evStore, evFieldAddr, nameOf, St.alloc, St.drop, killL, kill, killAll, killObs, killOb, upd, cells?, part, retag, retagL, putIn, refFree, refFreeL, isNew, isNewL, Ty.isAgg, splice, idsL, ids, idsLL, reach, depth, St.dropL, outOfCall_some, atEnd_normal, atEnd_ret, resultsV, resultV, allM_nil, allM_cons, resolve_int, resolve_bool, resolve_lit, resolve_sl, resolve_fp, resolve_emp, resolve_agg, resolve_tup, resolve_clo, resolve_own, Option.map_some, Option.map_none, List.length_cons, List.length_nil, List.length_map, ↓reduceIte, List.contains_cons, Bool.or_false, Bool.false_or, Bool.or_true, Bool.true_or, Nat.reduceBEq, beq_self_eq_true, List.map_cons, List.map_nil, List.filter_cons, List.filter_nil, List.flatMap_cons, List.flatMap_nil, Bool.not_true, Bool.not_false, and_self, and_true, true_and, List.getElem?_cons_zero, List.getElem?_cons_succ, List.getElem?_nil, List.drop_succ_cons, List.drop_zero, List.take_succ_cons, List.take_zero, List.drop_nil, List.take_nil, List.append_nil, Nat.reduceAdd, Nat.reduceSub, Nat.reduceMul, Nat.reduceEqDiff, Nat.reduceLeDiff, Nat.le_refl, Option.getD_none, Bool.and_true, Bool.true_and, Bool.and_false, Bool.and_self, Nat.lt_irrefl, Nat.reduceLT, Nat.zero_add, evRegion_still, evE, effOf, effMem, effStore, effCall, effVar, effLit, effMake, effApp, Eff.ap, evCall, lend, evAppend, evLit, evMake, evNil, freeze, onto, dropO, elemsV, sized, evCmp, eqT, eqG, minV, evUn, evField, evExtract, evIndexA, evIndexV, evSlice, optInt, fillV, placeOf, thawed, del, List.contains_append, Option.bind_none, Option.bind_some, Bool.and_eq_true, decide_true, decide_false, Bool.not_eq_true', List.take_length, List.range_succ, List.range_zero, Option.some.injEq, ne_eq, not_false_eq_true, not_true_eq_false, List.all_cons, List.all_nil, isNilSlice, List.getElem?_toArray, beqT, beqF, Bool.cond_true, Bool.cond_false, or_self, true_or, or_true, or_false, false_or, plain, plainL, ask_true, ask_false, pickV_true, pickV_false, resolve_ptr, cellsJ, junkOk, evLook, evMap, evEnter, effEnter, findV, mapOf, keyOk, evFrame, unframe, closed, fixed, sameEs, pickObs, putObs, wit, sameWit, Option.isSome_some, den_regT, regG_no, frameG_no, frameG_yes, evNilCheck, te, einl, inls, efr]
  simp only [Try.ntmps107, Try.results107, efc107, fc107, h40, Option.getD_some, List.replicate, List.cons_append, List.nil_append, den_seq, den_region, den_block, den_cond, den_skip, den_ret, den_exit, evOps, evOp, evPlain, evVal, evMem, wantedV, St.eval, St.put, St.get, constV, List.set, List.getD_cons_zero, List.getD_cons_succ, Bool.false_eq_true, if_false, List.contains_nil, Bool.false_and, normally_some, andThen_normal, andThen_exit, andThen_ret, atBlock_normal, atBlock_exit, atBlock_ret, lenV, sliceOf, arrayOf, fieldsOf, onBool_true, onBool_false, after_normal, after_exit, after_ret, normOf, norm, firstRegion, look, maskFrom, evBin, evIndexS, evLoad, evVar, evStore, evFieldAddr, nameOf, St.alloc, St.drop, killL, kill, killAll, killObs, killOb, upd, cells?, part, retag, retagL, putIn, refFree, refFreeL, isNew, isNewL, Ty.isAgg, splice, idsL, ids, idsLL, reach, depth, St.dropL, outOfCall_some, atEnd_normal, atEnd_ret, resultsV, resultV, allM_nil, allM_cons, resolve_int, resolve_bool, resolve_lit, resolve_sl, resolve_fp, resolve_emp, resolve_agg, resolve_tup, resolve_clo, resolve_own, Option.map_some, Option.map_none, List.length_cons, List.length_nil, List.length_map, ↓reduceIte, List.contains_cons, Bool.or_false, Bool.false_or, Bool.or_true, Bool.true_or, Nat.reduceBEq, beq_self_eq_true, List.map_cons, List.map_nil, List.filter_cons, List.filter_nil, List.flatMap_cons, List.flatMap_nil, Bool.not_true, Bool.not_false, and_self, and_true, true_and, List.getElem?_cons_zero, List.getElem?_cons_succ, List.getElem?_nil, List.drop_succ_cons, List.drop_zero, List.take_succ_cons, List.take_zero, List.drop_nil, List.take_nil, List.append_nil, Nat.reduceAdd, Nat.reduceSub, Nat.reduceMul, Nat.reduceEqDiff, Nat.reduceLeDiff, Nat.le_refl, Option.getD_none, Bool.and_true, Bool.true_and, Bool.and_false, Bool.and_self, Nat.lt_irrefl, Nat.reduceLT, Nat.zero_add, evRegion_still, evE, effOf, effMem, effStore, effCall, effVar, effLit, effMake, effApp, Eff.ap, evCall, lend, evAppend, evLit, evMake, evNil, freeze, onto, dropO, elemsV, sized, evCmp, eqT, eqG, minV, evUn, evField, evExtract, evIndexA, evIndexV, evSlice, optInt, fillV, placeOf, thawed, del, List.contains_append, Option.bind_none, Option.bind_some, Bool.and_eq_true, decide_true, decide_false, Bool.not_eq_true', List.take_length, List.range_succ, List.range_zero, Option.some.injEq, ne_eq, not_false_eq_true, not_true_eq_false, List.all_cons, List.all_nil, isNilSlice, List.getElem?_toArray, beqT, beqF, Bool.cond_true, Bool.cond_false, or_self, true_or, or_true, or_false, false_or, plain, plainL, ask_true, ask_false, pickV_true, pickV_false, resolve_ptr, cellsJ, junkOk, evLook, evMap, evEnter, effEnter, findV, mapOf, keyOk, evFrame, unframe, closed, fixed, sameEs, pickObs, putObs, wit, sameWit, Option.isSome_some, den_regT, regG_no, frameG_no, frameG_yes, evNilCheck, te, einl, inls, efr]
  generalize hr : den E X0 _ 0 (Code.loop _) _ = r
  refine den_loop_post (K := fun x => outOfCall (atEnd E _ (andThen (atBlock 0 x) _)) = some _) hr (α := { p : List Run × List Run // rs = p.1 ++ p.2 ∧ p.1.all wellB = true })
    (fun a => { slots := [.sl t (rs.map encRun), .junk, .junk, .int .i64 (ln a.1.1), .int .i64 a.1.1.length] ++ List.replicate 49 .junk, outer := [], objs := [] })
    (fun a => a.1.2.length) ⟨([], rs), rfl, rfl⟩ ?_ ?_ <;> clear hr
  · simp only [ln, List.foldl_nil, Option.getD_some, List.replicate, List.cons_append, List.nil_append, den_seq, den_region, den_block, den_cond, den_skip, den_ret, den_exit, evOps, evOp, evPlain, evVal, evMem, wantedV, St.eval, St.put, St.get, constV, List.set, List.getD_cons_zero, List.getD_cons_succ, Bool.false_eq_true, if_false, List.contains_nil, Bool.false_and, normally_some, andThen_normal, andThen_exit, andThen_ret, atBlock_normal, atBlock_exit, atBlock_ret, lenV, sliceOf, arrayOf, fieldsOf, onBool_true, onBool_false, after_normal, after_exit, after_ret, normOf, norm, firstRegion, look, maskFrom, evBin, evIndexS, evLoad, evVar, evStore, evFieldAddr, nameOf, St.alloc, St.drop, killL, kill, killAll, killObs, killOb, upd, cells?, part, retag, retagL, putIn, refFree, refFreeL, isNew, isNewL, Ty.isAgg, splice, idsL, ids, idsLL, reach, depth, St.dropL, outOfCall_some, atEnd_normal, atEnd_ret, resultsV, resultV, allM_nil, allM_cons, resolve_int, resolve_bool, resolve_lit, resolve_sl, resolve_fp, resolve_emp, resolve_agg, resolve_tup, resolve_clo, resolve_own, Option.map_some, Option.map_none, List.length_cons, List.length_nil, List.length_map, ↓reduceIte, List.contains_cons, Bool.or_false, Bool.false_or, Bool.or_true, Bool.true_or, Nat.reduceBEq, beq_self_eq_true, List.map_cons, List.map_nil, List.filter_cons, List.filter_nil, List.flatMap_cons, List.flatMap_nil, Bool.not_true, Bool.not_false, and_self, and_true, true_and, List.getElem?_cons_zero, List.getElem?_cons_succ, List.getElem?_nil, List.drop_succ_cons, List.drop_zero, List.take_succ_cons, List.take_zero, List.drop_nil, List.take_nil, List.append_nil, Nat.reduceAdd, Nat.reduceSub, Nat.reduceMul, Nat.reduceEqDiff, Nat.reduceLeDiff, Nat.le_refl, Option.getD_none, Bool.and_true, Bool.true_and, Bool.and_false, Bool.and_self, Nat.lt_irrefl, Nat.reduceLT, Nat.zero_add, evRegion_still, evE, effOf, effMem, effStore, effCall, effVar, effLit, effMake, effApp, Eff.ap, evCall, lend, evAppend, evLit, evMake, evNil, freeze, onto, dropO, elemsV, sized, evCmp, eqT, eqG, minV, evUn, evField, evExtract, evIndexA, evIndexV, evSlice, optInt, fillV, placeOf, thawed, del, List.contains_append, Option.bind_none, Option.bind_some, Bool.and_eq_true, decide_true, decide_false, Bool.not_eq_true', List.take_length, List.range_succ, List.range_zero, Option.some.injEq, ne_eq, not_false_eq_true, not_true_eq_false, List.all_cons, List.all_nil, isNilSlice, List.getElem?_toArray, beqT, beqF, Bool.cond_true, Bool.cond_false, or_self, true_or, or_true, or_false, false_or, plain, plainL, ask_true, ask_false, pickV_true, pickV_false, resolve_ptr, cellsJ, junkOk, evLook, evMap, evEnter, effEnter, findV, mapOf, keyOk, evFrame, unframe, closed, fixed, sameEs, pickObs, putObs, wit, sameWit, Option.isSome_some, den_regT, regG_no, frameG_no, frameG_yes, evNilCheck, te, einl, inls, efr, Int.natCast_zero]
  · rintro ⟨⟨pre, post⟩, hp, hpre⟩
    cases post with
    | nil =>
      obtain rfl : rs = pre := by simpa using hp
      by_cases hl : 1000000 < ln rs
      · have hv : validate rs = 4 := by unfold validate; rw [if_neg (by omega), if_pos hpre, if_pos hl]
        simp only [Try.results107, Int.lt_irrefl, hl, hv, Option.getD_some, List.replicate, List.cons_append, List.nil_append, den_seq, den_region, den_block, den_cond, den_skip, den_ret, den_exit, evOps, evOp, evPlain, evVal, evMem, wantedV, St.eval, St.put, St.get, constV, List.set, List.getD_cons_zero, List.getD_cons_succ, Bool.false_eq_true, if_false, List.contains_nil, Bool.false_and, normally_some, andThen_normal, andThen_exit, andThen_ret, atBlock_normal, atBlock_exit, atBlock_ret, lenV, sliceOf, arrayOf, fieldsOf, onBool_true, onBool_false, after_normal, after_exit, after_ret, normOf, norm, firstRegion, look, maskFrom, evBin, evIndexS, evLoad, evVar, evStore, evFieldAddr, nameOf, St.alloc, St.drop, killL, kill, killAll, killObs, killOb, upd, cells?, part, retag, retagL, putIn, refFree, refFreeL, isNew, isNewL, Ty.isAgg, splice, idsL, ids, idsLL, reach, depth, St.dropL, outOfCall_some, atEnd_normal, atEnd_ret, resultsV, resultV, allM_nil, allM_cons, resolve_int, resolve_bool, resolve_lit, resolve_sl, resolve_fp, resolve_emp, resolve_agg, resolve_tup, resolve_clo, resolve_own, Option.map_some, Option.map_none, List.length_cons, List.length_nil, List.length_map, ↓reduceIte, List.contains_cons, Bool.or_false, Bool.false_or, Bool.or_true, Bool.true_or, Nat.reduceBEq, beq_self_eq_true, List.map_cons, List.map_nil, List.filter_cons, List.filter_nil, List.flatMap_cons, List.flatMap_nil, Bool.not_true, Bool.not_false, and_self, and_true, true_and, List.getElem?_cons_zero, List.getElem?_cons_succ, List.getElem?_nil, List.drop_succ_cons, List.drop_zero, List.take_succ_cons, List.take_zero, List.drop_nil, List.take_nil, List.append_nil, Nat.reduceAdd, Nat.reduceSub, Nat.reduceMul, Nat.reduceEqDiff, Nat.reduceLeDiff, Nat.le_refl, Option.getD_none, Bool.and_true, Bool.true_and, Bool.and_false, Bool.and_self, Nat.lt_irrefl, Nat.reduceLT, Nat.zero_add, evRegion_still, evE, effOf, effMem, effStore, effCall, effVar, effLit, effMake, effApp, Eff.ap, evCall, lend, evAppend, evLit, evMake, evNil, freeze, onto, dropO, elemsV, sized, evCmp, eqT, eqG, minV, evUn, evField, evExtract, evIndexA, evIndexV, evSlice, optInt, fillV, placeOf, thawed, del, List.contains_append, Option.bind_none, Option.bind_some, Bool.and_eq_true, decide_true, decide_false, Bool.not_eq_true', List.take_length, List.range_succ, List.range_zero, Option.some.injEq, ne_eq, not_false_eq_true, not_true_eq_false, List.all_cons, List.all_nil, isNilSlice, List.getElem?_toArray, beqT, beqF, Bool.cond_true, Bool.cond_false, or_self, true_or, or_true, or_false, false_or, plain, plainL, ask_true, ask_false, pickV_true, pickV_false, resolve_ptr, cellsJ, junkOk, evLook, evMap, evEnter, effEnter, findV, mapOf, keyOk, evFrame, unframe, closed, fixed, sameEs, pickObs, putObs, wit, sameWit, Option.isSome_some, den_regT, regG_no, frameG_no, frameG_yes, evNilCheck, te, einl, inls, efr]
      · have hv : validate rs = 0 := by unfold validate; rw [if_neg (by omega), if_pos hpre, if_neg hl]
        simp only [Try.results107, Int.lt_irrefl, hl, hv, Option.getD_some, List.replicate, List.cons_append, List.nil_append, den_seq, den_region, den_block, den_cond, den_skip, den_ret, den_exit, evOps, evOp, evPlain, evVal, evMem, wantedV, St.eval, St.put, St.get, constV, List.set, List.getD_cons_zero, List.getD_cons_succ, Bool.false_eq_true, if_false, List.contains_nil, Bool.false_and, normally_some, andThen_normal, andThen_exit, andThen_ret, atBlock_normal, atBlock_exit, atBlock_ret, lenV, sliceOf, arrayOf, fieldsOf, onBool_true, onBool_false, after_normal, after_exit, after_ret, normOf, norm, firstRegion, look, maskFrom, evBin, evIndexS, evLoad, evVar, evStore, evFieldAddr, nameOf, St.alloc, St.drop, killL, kill, killAll, killObs, killOb, upd, cells?, part, retag, retagL, putIn, refFree, refFreeL, isNew, isNewL, Ty.isAgg, splice, idsL, ids, idsLL, reach, depth, St.dropL, outOfCall_some, atEnd_normal, atEnd_ret, resultsV, resultV, allM_nil, allM_cons, resolve_int, resolve_bool, resolve_lit, resolve_sl, resolve_fp, resolve_emp, resolve_agg, resolve_tup, resolve_clo, resolve_own, Option.map_some, Option.map_none, List.length_cons, List.length_nil, List.length_map, ↓reduceIte, List.contains_cons, Bool.or_false, Bool.false_or, Bool.or_true, Bool.true_or, Nat.reduceBEq, beq_self_eq_true, List.map_cons, List.map_nil, List.filter_cons, List.filter_nil, List.flatMap_cons, List.flatMap_nil, Bool.not_true, Bool.not_false, and_self, and_true, true_and, List.getElem?_cons_zero, List.getElem?_cons_succ, List.getElem?_nil, List.drop_succ_cons, List.drop_zero, List.take_succ_cons, List.take_zero, List.drop_nil, List.take_nil, List.append_nil, Nat.reduceAdd, Nat.reduceSub, Nat.reduceMul, Nat.reduceEqDiff, Nat.reduceLeDiff, Nat.le_refl, Option.getD_none, Bool.and_true, Bool.true_and, Bool.and_false, Bool.and_self, Nat.lt_irrefl, Nat.reduceLT, Nat.zero_add, evRegion_still, evE, effOf, effMem, effStore, effCall, effVar, effLit, effMake, effApp, Eff.ap, evCall, lend, evAppend, evLit, evMake, evNil, freeze, onto, dropO, elemsV, sized, evCmp, eqT, eqG, minV, evUn, evField, evExtract, evIndexA, evIndexV, evSlice, optInt, fillV, placeOf, thawed, del, List.contains_append, Option.bind_none, Option.bind_some, Bool.and_eq_true, decide_true, decide_false, Bool.not_eq_true', List.take_length, List.range_succ, List.range_zero, Option.some.injEq, ne_eq, not_false_eq_true, not_true_eq_false, List.all_cons, List.all_nil, isNilSlice, List.getElem?_toArray, beqT, beqF, Bool.cond_true, Bool.cond_false, or_self, true_or, or_true, or_false, false_or, plain, plainL, ask_true, ask_false, pickV_true, pickV_false, resolve_ptr, cellsJ, junkOk, evLook, evMap, evEnter, effEnter, findV, mapOf, keyOk, evFrame, unframe, closed, fixed, sameEs, pickObs, putObs, wit, sameWit, Option.isSome_some, den_regT, regG_no, frameG_no, frameG_yes, evNilCheck, te, einl, inls, efr]
    | cons r post =>
      have hlt : ((pre.length : Int) < rs.length) := by subst hp; simp; omega
      have hget : rs[pre.length]? = some r := by subst hp; simp
      have hw : IntKind.i64.wrap ((pre.length : Int) + 1) = ((pre ++ [r]).length : Int) := by rw [IntWalk.i64_in _ (by omega)]; simp
      have hbad : wellB r = false → validate rs = 1 := fun hb => by
        unfold validate; rw [if_neg (by omega), if_neg]; subst hp; simp [hb]
      cases h1 : inB r.len 1 1000000 with
      | false =>
        have hv := hbad (by simp [wellB, h1])
        simp only [Try.results107, hlt, Int.natCast_nonneg, Int.toNat_natCast, List.getElem?_map, hget, encRun, c126, h1, hv, Option.getD_some, List.replicate, List.cons_append, List.nil_append, den_seq, den_region, den_block, den_cond, den_skip, den_ret, den_exit, evOps, evOp, evPlain, evVal, evMem, wantedV, St.eval, St.put, St.get, constV, List.set, List.getD_cons_zero, List.getD_cons_succ, Bool.false_eq_true, if_false, List.contains_nil, Bool.false_and, normally_some, andThen_normal, andThen_exit, andThen_ret, atBlock_normal, atBlock_exit, atBlock_ret, lenV, sliceOf, arrayOf, fieldsOf, onBool_true, onBool_false, after_normal, after_exit, after_ret, normOf, norm, firstRegion, look, maskFrom, evBin, evIndexS, evLoad, evVar, evStore, evFieldAddr, nameOf, St.alloc, St.drop, killL, kill, killAll, killObs, killOb, upd, cells?, part, retag, retagL, putIn, refFree, refFreeL, isNew, isNewL, Ty.isAgg, splice, idsL, ids, idsLL, reach, depth, St.dropL, outOfCall_some, atEnd_normal, atEnd_ret, resultsV, resultV, allM_nil, allM_cons, resolve_int, resolve_bool, resolve_lit, resolve_sl, resolve_fp, resolve_emp, resolve_agg, resolve_tup, resolve_clo, resolve_own, Option.map_some, Option.map_none, List.length_cons, List.length_nil, List.length_map, ↓reduceIte, List.contains_cons, Bool.or_false, Bool.false_or, Bool.or_true, Bool.true_or, Nat.reduceBEq, beq_self_eq_true, List.map_cons, List.map_nil, List.filter_cons, List.filter_nil, List.flatMap_cons, List.flatMap_nil, Bool.not_true, Bool.not_false, and_self, and_true, true_and, List.getElem?_cons_zero, List.getElem?_cons_succ, List.getElem?_nil, List.drop_succ_cons, List.drop_zero, List.take_succ_cons, List.take_zero, List.drop_nil, List.take_nil, List.append_nil, Nat.reduceAdd, Nat.reduceSub, Nat.reduceMul, Nat.reduceEqDiff, Nat.reduceLeDiff, Nat.le_refl, Option.getD_none, Bool.and_true, Bool.true_and, Bool.and_false, Bool.and_self, Nat.lt_irrefl, Nat.reduceLT, Nat.zero_add, evRegion_still, evE, effOf, effMem, effStore, effCall, effVar, effLit, effMake, effApp, Eff.ap, evCall, lend, evAppend, evLit, evMake, evNil, freeze, onto, dropO, elemsV, sized, evCmp, eqT, eqG, minV, evUn, evField, evExtract, evIndexA, evIndexV, evSlice, optInt, fillV, placeOf, thawed, del, List.contains_append, Option.bind_none, Option.bind_some, Bool.and_eq_true, decide_true, decide_false, Bool.not_eq_true', List.take_length, List.range_succ, List.range_zero, Option.some.injEq, ne_eq, not_false_eq_true, not_true_eq_false, List.all_cons, List.all_nil, isNilSlice, List.getElem?_toArray, beqT, beqF, Bool.cond_true, Bool.cond_false, or_self, true_or, or_true, or_false, false_or, plain, plainL, ask_true, ask_false, pickV_true, pickV_false, resolve_ptr, cellsJ, junkOk, evLook, evMap, evEnter, effEnter, findV, mapOf, keyOk, evFrame, unframe, closed, fixed, sameEs, pickObs, putObs, wit, sameWit, Option.isSome_some, den_regT, regG_no, frameG_no, frameG_yes, evNilCheck, te, einl, inls, efr]
      | true =>
      cases h2 : inB r.thick 1 1000 with
      | false =>
        have hv := hbad (by simp [wellB, h2])
        simp only [Try.results107, hlt, Int.natCast_nonneg, Int.toNat_natCast, List.getElem?_map, hget, encRun, c126, h1, h2, hv, Option.getD_some, List.replicate, List.cons_append, List.nil_append, den_seq, den_region, den_block, den_cond, den_skip, den_ret, den_exit, evOps, evOp, evPlain, evVal, evMem, wantedV, St.eval, St.put, St.get, constV, List.set, List.getD_cons_zero, List.getD_cons_succ, Bool.false_eq_true, if_false, List.contains_nil, Bool.false_and, normally_some, andThen_normal, andThen_exit, andThen_ret, atBlock_normal, atBlock_exit, atBlock_ret, lenV, sliceOf, arrayOf, fieldsOf, onBool_true, onBool_false, after_normal, after_exit, after_ret, normOf, norm, firstRegion, look, maskFrom, evBin, evIndexS, evLoad, evVar, evStore, evFieldAddr, nameOf, St.alloc, St.drop, killL, kill, killAll, killObs, killOb, upd, cells?, part, retag, retagL, putIn, refFree, refFreeL, isNew, isNewL, Ty.isAgg, splice, idsL, ids, idsLL, reach, depth, St.dropL, outOfCall_some, atEnd_normal, atEnd_ret, resultsV, resultV, allM_nil, allM_cons, resolve_int, resolve_bool, resolve_lit, resolve_sl, resolve_fp, resolve_emp, resolve_agg, resolve_tup, resolve_clo, resolve_own, Option.map_some, Option.map_none, List.length_cons, List.length_nil, List.length_map, ↓reduceIte, List.contains_cons, Bool.or_false, Bool.false_or, Bool.or_true, Bool.true_or, Nat.reduceBEq, beq_self_eq_true, List.map_cons, List.map_nil, List.filter_cons, List.filter_nil, List.flatMap_cons, List.flatMap_nil, Bool.not_true, Bool.not_false, and_self, and_true, true_and, List.getElem?_cons_zero, List.getElem?_cons_succ, List.getElem?_nil, List.drop_succ_cons, List.drop_zero, List.take_succ_cons, List.take_zero, List.drop_nil, List.take_nil, List.append_nil, Nat.reduceAdd, Nat.reduceSub, Nat.reduceMul, Nat.reduceEqDiff, Nat.reduceLeDiff, Nat.le_refl, Option.getD_none, Bool.and_true, Bool.true_and, Bool.and_false, Bool.and_self, Nat.lt_irrefl, Nat.reduceLT, Nat.zero_add, evRegion_still, evE, effOf, effMem, effStore, effCall, effVar, effLit, effMake, effApp, Eff.ap, evCall, lend, evAppend, evLit, evMake, evNil, freeze, onto, dropO, elemsV, sized, evCmp, eqT, eqG, minV, evUn, evField, evExtract, evIndexA, evIndexV, evSlice, optInt, fillV, placeOf, thawed, del, List.contains_append, Option.bind_none, Option.bind_some, Bool.and_eq_true, decide_true, decide_false, Bool.not_eq_true', List.take_length, List.range_succ, List.range_zero, Option.some.injEq, ne_eq, not_false_eq_true, not_true_eq_false, List.all_cons, List.all_nil, isNilSlice, List.getElem?_toArray, beqT, beqF, Bool.cond_true, Bool.cond_false, or_self, true_or, or_true, or_false, false_or, plain, plainL, ask_true, ask_false, pickV_true, pickV_false, resolve_ptr, cellsJ, junkOk, evLook, evMap, evEnter, effEnter, findV, mapOf, keyOk, evFrame, unframe, closed, fixed, sameEs, pickObs, putObs, wit, sameWit, Option.isSome_some, den_regT, regG_no, frameG_no, frameG_yes, evNilCheck, te, einl, inls, efr]
      | true =>
      cases h3 : inB r.shade 0 99 with
      | false =>
        have hv := hbad (by simp [wellB, h3])
        simp only [Try.results107, hlt, Int.natCast_nonneg, Int.toNat_natCast, List.getElem?_map, hget, encRun, c126, h1, h2, h3, hv, Option.getD_some, List.replicate, List.cons_append, List.nil_append, den_seq, den_region, den_block, den_cond, den_skip, den_ret, den_exit, evOps, evOp, evPlain, evVal, evMem, wantedV, St.eval, St.put, St.get, constV, List.set, List.getD_cons_zero, List.getD_cons_succ, Bool.false_eq_true, if_false, List.contains_nil, Bool.false_and, normally_some, andThen_normal, andThen_exit, andThen_ret, atBlock_normal, atBlock_exit, atBlock_ret, lenV, sliceOf, arrayOf, fieldsOf, onBool_true, onBool_false, after_normal, after_exit, after_ret, normOf, norm, firstRegion, look, maskFrom, evBin, evIndexS, evLoad, evVar, evStore, evFieldAddr, nameOf, St.alloc, St.drop, killL, kill, killAll, killObs, killOb, upd, cells?, part, retag, retagL, putIn, refFree, refFreeL, isNew, isNewL, Ty.isAgg, splice, idsL, ids, idsLL, reach, depth, St.dropL, outOfCall_some, atEnd_normal, atEnd_ret, resultsV, resultV, allM_nil, allM_cons, resolve_int, resolve_bool, resolve_lit, resolve_sl, resolve_fp, resolve_emp, resolve_agg, resolve_tup, resolve_clo, resolve_own, Option.map_some, Option.map_none, List.length_cons, List.length_nil, List.length_map, ↓reduceIte, List.contains_cons, Bool.or_false, Bool.false_or, Bool.or_true, Bool.true_or, Nat.reduceBEq, beq_self_eq_true, List.map_cons, List.map_nil, List.filter_cons, List.filter_nil, List.flatMap_cons, List.flatMap_nil, Bool.not_true, Bool.not_false, and_self, and_true, true_and, List.getElem?_cons_zero, List.getElem?_cons_succ, List.getElem?_nil, List.drop_succ_cons, List.drop_zero, List.take_succ_cons, List.take_zero, List.drop_nil, List.take_nil, List.append_nil, Nat.reduceAdd, Nat.reduceSub, Nat.reduceMul, Nat.reduceEqDiff, Nat.reduceLeDiff, Nat.le_refl, Option.getD_none, Bool.and_true, Bool.true_and, Bool.and_false, Bool.and_self, Nat.lt_irrefl, Nat.reduceLT, Nat.zero_add, evRegion_still, evE, effOf, effMem, effStore, effCall, effVar, effLit, effMake, effApp, Eff.ap, evCall, lend, evAppend, evLit, evMake, evNil, freeze, onto, dropO, elemsV, sized, evCmp, eqT, eqG, minV, evUn, evField, evExtract, evIndexA, evIndexV, evSlice, optInt, fillV, placeOf, thawed, del, List.contains_append, Option.bind_none, Option.bind_some, Bool.and_eq_true, decide_true, decide_false, Bool.not_eq_true', List.take_length, List.range_succ, List.range_zero, Option.some.injEq, ne_eq, not_false_eq_true, not_true_eq_false, List.all_cons, List.all_nil, isNilSlice, List.getElem?_toArray, beqT, beqF, Bool.cond_true, Bool.cond_false, or_self, true_or, or_true, or_false, false_or, plain, plainL, ask_true, ask_false, pickV_true, pickV_false, resolve_ptr, cellsJ, junkOk, evLook, evMap, evEnter, effEnter, findV, mapOf, keyOk, evFrame, unframe, closed, fixed, sameEs, pickObs, putObs, wit, sameWit, Option.isSome_some, den_regT, regG_no, frameG_no, frameG_yes, evNilCheck, te, einl, inls, efr]
      | true =>
      cases h4 : inB r.flaw 0 15 with
      | false =>
        have hv := hbad (by simp [wellB, h4])
        simp only [Try.results107, hlt, Int.natCast_nonneg, Int.toNat_natCast, List.getElem?_map, hget, encRun, c126, h1, h2, h3, h4, hv, Option.getD_some, List.replicate, List.cons_append, List.nil_append, den_seq, den_region, den_block, den_cond, den_skip, den_ret, den_exit, evOps, evOp, evPlain, evVal, evMem, wantedV, St.eval, St.put, St.get, constV, List.set, List.getD_cons_zero, List.getD_cons_succ, Bool.false_eq_true, if_false, List.contains_nil, Bool.false_and, normally_some, andThen_normal, andThen_exit, andThen_ret, atBlock_normal, atBlock_exit, atBlock_ret, lenV, sliceOf, arrayOf, fieldsOf, onBool_true, onBool_false, after_normal, after_exit, after_ret, normOf, norm, firstRegion, look, maskFrom, evBin, evIndexS, evLoad, evVar, evStore, evFieldAddr, nameOf, St.alloc, St.drop, killL, kill, killAll, killObs, killOb, upd, cells?, part, retag, retagL, putIn, refFree, refFreeL, isNew, isNewL, Ty.isAgg, splice, idsL, ids, idsLL, reach, depth, St.dropL, outOfCall_some, atEnd_normal, atEnd_ret, resultsV, resultV, allM_nil, allM_cons, resolve_int, resolve_bool, resolve_lit, resolve_sl, resolve_fp, resolve_emp, resolve_agg, resolve_tup, resolve_clo, resolve_own, Option.map_some, Option.map_none, List.length_cons, List.length_nil, List.length_map, ↓reduceIte, List.contains_cons, Bool.or_false, Bool.false_or, Bool.or_true, Bool.true_or, Nat.reduceBEq, beq_self_eq_true, List.map_cons, List.map_nil, List.filter_cons, List.filter_nil, List.flatMap_cons, List.flatMap_nil, Bool.not_true, Bool.not_false, and_self, and_true, true_and, List.getElem?_cons_zero, List.getElem?_cons_succ, List.getElem?_nil, List.drop_succ_cons, List.drop_zero, List.take_succ_cons, List.take_zero, List.drop_nil, List.take_nil, List.append_nil, Nat.reduceAdd, Nat.reduceSub, Nat.reduceMul, Nat.reduceEqDiff, Nat.reduceLeDiff, Nat.le_refl, Option.getD_none, Bool.and_true, Bool.true_and, Bool.and_false, Bool.and_self, Nat.lt_irrefl, Nat.reduceLT, Nat.zero_add, evRegion_still, evE, effOf, effMem, effStore, effCall, effVar, effLit, effMake, effApp, Eff.ap, evCall, lend, evAppend, evLit, evMake, evNil, freeze, onto, dropO, elemsV, sized, evCmp, eqT, eqG, minV, evUn, evField, evExtract, evIndexA, evIndexV, evSlice, optInt, fillV, placeOf, thawed, del, List.contains_append, Option.bind_none, Option.bind_some, Bool.and_eq_true, decide_true, decide_false, Bool.not_eq_true', List.take_length, List.range_succ, List.range_zero, Option.some.injEq, ne_eq, not_false_eq_true, not_true_eq_false, List.all_cons, List.all_nil, isNilSlice, List.getElem?_toArray, beqT, beqF, Bool.cond_true, Bool.cond_false, or_self, true_or, or_true, or_false, false_or, plain, plainL, ask_true, ask_false, pickV_true, pickV_false, resolve_ptr, cellsJ, junkOk, evLook, evMap, evEnter, effEnter, findV, mapOf, keyOk, evFrame, unframe, closed, fixed, sameEs, pickObs, putObs, wit, sameWit, Option.isSome_some, den_regT, regG_no, frameG_no, frameG_yes, evNilCheck, te, einl, inls, efr]
      | true =>
        simp only [Try.results107, hlt, Int.natCast_nonneg, Int.toNat_natCast, List.getElem?_map, hget, encRun, c126, h1, h2, h3, h4, Option.getD_some, List.replicate, List.cons_append, List.nil_append, den_seq, den_region, den_block, den_cond, den_skip, den_ret, den_exit, evOps, evOp, evPlain, evVal, evMem, wantedV, St.eval, St.put, St.get, constV, List.set, List.getD_cons_zero, List.getD_cons_succ, Bool.false_eq_true, if_false, List.contains_nil, Bool.false_and, normally_some, andThen_normal, andThen_exit, andThen_ret, atBlock_normal, atBlock_exit, atBlock_ret, lenV, sliceOf, arrayOf, fieldsOf, onBool_true, onBool_false, after_normal, after_exit, after_ret, normOf, norm, firstRegion, look, maskFrom, evBin, evIndexS, evLoad, evVar, evStore, evFieldAddr, nameOf, St.alloc, St.drop, killL, kill, killAll, killObs, killOb, upd, cells?, part, retag, retagL, putIn, refFree, refFreeL, isNew, isNewL, Ty.isAgg, splice, idsL, ids, idsLL, reach, depth, St.dropL, outOfCall_some, atEnd_normal, atEnd_ret, resultsV, resultV, allM_nil, allM_cons, resolve_int, resolve_bool, resolve_lit, resolve_sl, resolve_fp, resolve_emp, resolve_agg, resolve_tup, resolve_clo, resolve_own, Option.map_some, Option.map_none, List.length_cons, List.length_nil, List.length_map, ↓reduceIte, List.contains_cons, Bool.or_false, Bool.false_or, Bool.or_true, Bool.true_or, Nat.reduceBEq, beq_self_eq_true, List.map_cons, List.map_nil, List.filter_cons, List.filter_nil, List.flatMap_cons, List.flatMap_nil, Bool.not_true, Bool.not_false, and_self, and_true, true_and, List.getElem?_cons_zero, List.getElem?_cons_succ, List.getElem?_nil, List.drop_succ_cons, List.drop_zero, List.take_succ_cons, List.take_zero, List.drop_nil, List.take_nil, List.append_nil, Nat.reduceAdd, Nat.reduceSub, Nat.reduceMul, Nat.reduceEqDiff, Nat.reduceLeDiff, Nat.le_refl, Option.getD_none, Bool.and_true, Bool.true_and, Bool.and_false, Bool.and_self, Nat.lt_irrefl, Nat.reduceLT, Nat.zero_add, evRegion_still, evE, effOf, effMem, effStore, effCall, effVar, effLit, effMake, effApp, Eff.ap, evCall, lend, evAppend, evLit, evMake, evNil, freeze, onto, dropO, elemsV, sized, evCmp, eqT, eqG, minV, evUn, evField, evExtract, evIndexA, evIndexV, evSlice, optInt, fillV, placeOf, thawed, del, List.contains_append, Option.bind_none, Option.bind_some, Bool.and_eq_true, decide_true, decide_false, Bool.not_eq_true', List.take_length, List.range_succ, List.range_zero, Option.some.injEq, ne_eq, not_false_eq_true, not_true_eq_false, List.all_cons, List.all_nil, isNilSlice, List.getElem?_toArray, beqT, beqF, Bool.cond_true, Bool.cond_false, or_self, true_or, or_true, or_false, false_or, plain, plainL, ask_true, ask_false, pickV_true, pickV_false, resolve_ptr, cellsJ, junkOk, evLook, evMap, evEnter, effEnter, findV, mapOf, keyOk, evFrame, unframe, closed, fixed, sameEs, pickObs, putObs, wit, sameWit, Option.isSome_some, den_regT, regG_no, frameG_no, frameG_yes, evNilCheck, te, einl, inls, efr]
        exact ⟨⟨(pre ++ [r], post), by simpa using hp, by simp [hpre, wellB, h1, h2, h3, h4]⟩, by simp only [hw, ln, List.foldl_append, List.foldl_cons, List.foldl_nil, Option.getD_some, List.replicate, List.cons_append, List.nil_append, den_seq, den_region, den_block, den_cond, den_skip, den_ret, den_exit, evOps, evOp, evPlain, evVal, evMem, wantedV, St.eval, St.put, St.get, constV, List.set, List.getD_cons_zero, List.getD_cons_succ, Bool.false_eq_true, if_false, List.contains_nil, Bool.false_and, normally_some, andThen_normal, andThen_exit, andThen_ret, atBlock_normal, atBlock_exit, atBlock_ret, lenV, sliceOf, arrayOf, fieldsOf, onBool_true, onBool_false, after_normal, after_exit, after_ret, normOf, norm, firstRegion, look, maskFrom, evBin, evIndexS, evLoad, evVar, evStore, evFieldAddr, nameOf, St.alloc, St.drop, killL, kill, killAll, killObs, killOb, upd, cells?, part, retag, retagL, putIn, refFree, refFreeL, isNew, isNewL, Ty.isAgg, splice, idsL, ids, idsLL, reach, depth, St.dropL, outOfCall_some, atEnd_normal, atEnd_ret, resultsV, resultV, allM_nil, allM_cons, resolve_int, resolve_bool, resolve_lit, resolve_sl, resolve_fp, resolve_emp, resolve_agg, resolve_tup, resolve_clo, resolve_own, Option.map_some, Option.map_none, List.length_cons, List.length_nil, List.length_map, ↓reduceIte, List.contains_cons, Bool.or_false, Bool.false_or, Bool.or_true, Bool.true_or, Nat.reduceBEq, beq_self_eq_true, List.map_cons, List.map_nil, List.filter_cons, List.filter_nil, List.flatMap_cons, List.flatMap_nil, Bool.not_true, Bool.not_false, and_self, and_true, true_and, List.getElem?_cons_zero, List.getElem?_cons_succ, List.getElem?_nil, List.drop_succ_cons, List.drop_zero, List.take_succ_cons, List.take_zero, List.drop_nil, List.take_nil, List.append_nil, Nat.reduceAdd, Nat.reduceSub, Nat.reduceMul, Nat.reduceEqDiff, Nat.reduceLeDiff, Nat.le_refl, Option.getD_none, Bool.and_true, Bool.true_and, Bool.and_false, Bool.and_self, Nat.lt_irrefl, Nat.reduceLT, Nat.zero_add, evRegion_still, evE, effOf, effMem, effStore, effCall, effVar, effLit, effMake, effApp, Eff.ap, evCall, lend, evAppend, evLit, evMake, evNil, freeze, onto, dropO, elemsV, sized, evCmp, eqT, eqG, minV, evUn, evField, evExtract, evIndexA, evIndexV, evSlice, optInt, fillV, placeOf, thawed, del, List.contains_append, Option.bind_none, Option.bind_some, Bool.and_eq_true, decide_true, decide_false, Bool.not_eq_true', List.take_length, List.range_succ, List.range_zero, Option.some.injEq, ne_eq, not_false_eq_true, not_true_eq_false, List.all_cons, List.all_nil, isNilSlice, List.getElem?_toArray, beqT, beqF, Bool.cond_true, Bool.cond_false, or_self, true_or, or_true, or_false, false_or, plain, plainL, ask_true, ask_false, pickV_true, pickV_false, resolve_ptr, cellsJ, junkOk, evLook, evMap, evEnter, effEnter, findV, mapOf, keyOk, evFrame, unframe, closed, fixed, sameEs, pickObs, putObs, wit, sameWit, Option.isSome_some, den_regT, regG_no, frameG_no, frameG_yes, evNilCheck, te, einl, inls, efr], Nat.lt_succ_self _⟩

def same (r s : Run) : Bool := r.thick == s.thick && (r.shade == s.shade && (r.flaw == s.flaw && true))

def merge (r s : Run) : Run := { r with len := IntKind.i64.wrap (r.len + s.len) }

end Go.AM.B
end

section
namespace Go.AM.B
open Go Go.Proofs

def push (acc : List Run) (r : Run) : List Run := match acc.getLast? with
  | some s => if same s r = true then acc.set (acc.length - 1) (merge s r) else acc ++ [r]
  | none => acc ++ [r]

def joinedL (rs : List Run) : List Run := rs.foldl push []

theorem push_le (acc : List Run) (r : Run) : (push acc r).length ≤ acc.length + 1 := by
  unfold push
  split
  · split <;> simp
  · simp

theorem push_cases (acc : List Run) : acc = [] ∨ ∃ n s, acc.length = n + 1 ∧ acc[n]? = some s ∧ acc.getLast? = some s := by
  rcases List.eq_nil_or_concat acc with rfl | ⟨l, s, rfl⟩
  · exact .inl rfl
  · refine .inr ⟨l.length, s, by simp, by simp, by simp⟩

theorem take_map (acc : List Run) : (acc.map encRun).take acc.length = acc.map encRun := List.take_of_length_le (by simp)

end Go.AM.B
end

section
namespace Go.AM.B
open Go Go.Proofs

theorem joined_le (rs : List Run) : (joinedL rs).length ≤ rs.length := by
  have : ∀ (rs acc : List Run), (rs.foldl push acc).length ≤ acc.length + rs.length := by
    intro rs
    induction rs with
    | nil => intro acc; simp
    | cons r rs ih =>
      intro acc
      have h1 := ih (push acc r)
      have h2 := push_le acc r
      simp only [List.foldl_cons, List.length_cons]
      omega
  simpa [joinedL] using this rs []

def encRes (out : List Run × Int) : V := .tup [.sl true (out.1.map encRun), .int .i64 out.2]

def finished (js : List Run) : List Run × Int := if 40 < js.length ∨ 1000000 < ln js then ([], 4) else (js, 0)

def normal (rs : List Run) : List Run × Int := if validate rs = 0 then finished (joinedL rs) else ([], validate rs)

def encLen (out : Int × Int) : V := .tup [.int .i64 out.1, .int .i64 out.2]
def lengthM (rs : List Run) : Int × Int := if validate rs = 0 then (ln rs, 0) else (0, validate rs)

end Go.AM.B
end

section
namespace Go.AM.B
open Go Go.Proofs

theorem c49 (t : Bool) (rs : List Run) (hn : rs.length ≤ 1000000000) : (orcω E X0).call 49 [.sl t (rs.map encRun)] = some (encLen (lengthM rs)) := by
  refine call_of rfl fn49 rfl ?_
  have hc := c81 false rs hn
  have hf := c82 false rs hn
  by_cases h : validate rs = 0
  · have h' : (validate rs != 0) = false := by simp [h]
    have hr : lengthM rs = (ln rs, 0) := by unfold lengthM; rw [if_pos h]
    rw [hr]
    simp only [Try.ntmps49, Try.results49, efc49, hc, h', hf, encLen, Option.getD_some, List.replicate, List.cons_append, List.nil_append, den_seq, den_region, den_block, den_cond, den_skip, den_ret, den_exit, evOps, evOp, evPlain, evVal, evMem, wantedV, St.eval, St.put, St.get, constV, List.set, List.getD_cons_zero, List.getD_cons_succ, Bool.false_eq_true, if_false, List.contains_nil, Bool.false_and, normally_some, andThen_normal, andThen_exit, andThen_ret, atBlock_normal, atBlock_exit, atBlock_ret, lenV, sliceOf, arrayOf, fieldsOf, onBool_true, onBool_false, after_normal, after_exit, after_ret, normOf, norm, firstRegion, look, maskFrom, evBin, evIndexS, evLoad, evVar, evStore, evFieldAddr, nameOf, St.alloc, St.drop, killL, kill, killAll, killObs, killOb, upd, cells?, part, retag, retagL, putIn, refFree, refFreeL, isNew, isNewL, Ty.isAgg, splice, idsL, ids, idsLL, reach, depth, St.dropL, outOfCall_some, atEnd_normal, atEnd_ret, resultsV, resultV, allM_nil, allM_cons, resolve_int, resolve_bool, resolve_lit, resolve_sl, resolve_fp, resolve_emp, resolve_agg, resolve_tup, resolve_clo, resolve_own, Option.map_some, Option.map_none, List.length_cons, List.length_nil, List.length_map, ↓reduceIte, List.contains_cons, Bool.or_false, Bool.false_or, Bool.or_true, Bool.true_or, Nat.reduceBEq, beq_self_eq_true, List.map_cons, List.map_nil, List.filter_cons, List.filter_nil, List.flatMap_cons, List.flatMap_nil, Bool.not_true, Bool.not_false, and_self, and_true, true_and, List.getElem?_cons_zero, List.getElem?_cons_succ, List.getElem?_nil, List.drop_succ_cons, List.drop_zero, List.take_succ_cons, List.take_zero, List.drop_nil, List.take_nil, List.append_nil, Nat.reduceAdd, Nat.reduceSub, Nat.reduceMul, Nat.reduceEqDiff, Nat.reduceLeDiff, Nat.le_refl, Option.getD_none, Bool.and_true, Bool.true_and, Bool.and_false, Bool.and_self, Nat.lt_irrefl, Nat.reduceLT, Nat.zero_add, evRegion_still, evE, effOf, effMem, effStore, effCall, effVar, effLit, effMake, effApp, Eff.ap, evCall, lend, evAppend, evLit, evMake, evNil, freeze, onto, dropO, elemsV, sized, evCmp, eqT, eqG, minV, evUn, evField, evExtract, evIndexA, evIndexV, evSlice, optInt, fillV, placeOf, thawed, del, List.contains_append, Option.bind_none, Option.bind_some, Bool.and_eq_true, decide_true, decide_false, Bool.not_eq_true', List.take_length, List.range_succ, List.range_zero, Option.some.injEq, ne_eq, not_false_eq_true, not_true_eq_false, List.all_cons, List.all_nil, isNilSlice, List.getElem?_toArray, beqT, beqF, Bool.cond_true, Bool.cond_false, or_self, true_or, or_true, or_false, false_or, plain, plainL, ask_true, ask_false, pickV_true, pickV_false, resolve_ptr, cellsJ, junkOk, evLook, evMap, evEnter, effEnter, findV, mapOf, keyOk, evFrame, unframe, closed, fixed, sameEs, pickObs, putObs, wit, sameWit, Option.isSome_some, den_regT, regG_no, frameG_no, frameG_yes, evNilCheck, te, einl, inls, efr]
  · have h' : (validate rs != 0) = true := by simp [h]
    have hr : lengthM rs = (0, validate rs) := by unfold lengthM; rw [if_neg h]
    rw [hr]
    simp only [Try.ntmps49, Try.results49, efc49, hc, h', encLen, Option.getD_some, List.replicate, List.cons_append, List.nil_append, den_seq, den_region, den_block, den_cond, den_skip, den_ret, den_exit, evOps, evOp, evPlain, evVal, evMem, wantedV, St.eval, St.put, St.get, constV, List.set, List.getD_cons_zero, List.getD_cons_succ, Bool.false_eq_true, if_false, List.contains_nil, Bool.false_and, normally_some, andThen_normal, andThen_exit, andThen_ret, atBlock_normal, atBlock_exit, atBlock_ret, lenV, sliceOf, arrayOf, fieldsOf, onBool_true, onBool_false, after_normal, after_exit, after_ret, normOf, norm, firstRegion, look, maskFrom, evBin, evIndexS, evLoad, evVar, evStore, evFieldAddr, nameOf, St.alloc, St.drop, killL, kill, killAll, killObs, killOb, upd, cells?, part, retag, retagL, putIn, refFree, refFreeL, isNew, isNewL, Ty.isAgg, splice, idsL, ids, idsLL, reach, depth, St.dropL, outOfCall_some, atEnd_normal, atEnd_ret, resultsV, resultV, allM_nil, allM_cons, resolve_int, resolve_bool, resolve_lit, resolve_sl, resolve_fp, resolve_emp, resolve_agg, resolve_tup, resolve_clo, resolve_own, Option.map_some, Option.map_none, List.length_cons, List.length_nil, List.length_map, ↓reduceIte, List.contains_cons, Bool.or_false, Bool.false_or, Bool.or_true, Bool.true_or, Nat.reduceBEq, beq_self_eq_true, List.map_cons, List.map_nil, List.filter_cons, List.filter_nil, List.flatMap_cons, List.flatMap_nil, Bool.not_true, Bool.not_false, and_self, and_true, true_and, List.getElem?_cons_zero, List.getElem?_cons_succ, List.getElem?_nil, List.drop_succ_cons, List.drop_zero, List.take_succ_cons, List.take_zero, List.drop_nil, List.take_nil, List.append_nil, Nat.reduceAdd, Nat.reduceSub, Nat.reduceMul, Nat.reduceEqDiff, Nat.reduceLeDiff, Nat.le_refl, Option.getD_none, Bool.and_true, Bool.true_and, Bool.and_false, Bool.and_self, Nat.lt_irrefl, Nat.reduceLT, Nat.zero_add, evRegion_still, evE, effOf, effMem, effStore, effCall, effVar, effLit, effMake, effApp, Eff.ap, evCall, lend, evAppend, evLit, evMake, evNil, freeze, onto, dropO, elemsV, sized, evCmp, eqT, eqG, minV, evUn, evField, evExtract, evIndexA, evIndexV, evSlice, optInt, fillV, placeOf, thawed, del, List.contains_append, Option.bind_none, Option.bind_some, Bool.and_eq_true, decide_true, decide_false, Bool.not_eq_true', List.take_length, List.range_succ, List.range_zero, Option.some.injEq, ne_eq, not_false_eq_true, not_true_eq_false, List.all_cons, List.all_nil, isNilSlice, List.getElem?_toArray, beqT, beqF, Bool.cond_true, Bool.cond_false, or_self, true_or, or_true, or_false, false_or, plain, plainL, ask_true, ask_false, pickV_true, pickV_false, resolve_ptr, cellsJ, junkOk, evLook, evMap, evEnter, effEnter, findV, mapOf, keyOk, evFrame, unframe, closed, fixed, sameEs, pickObs, putObs, wit, sameWit, Option.isSome_some, den_regT, regG_no, frameG_no, frameG_yes, evNilCheck, te, einl, inls, efr]

theorem c80 (t : Bool) (rs : List Run) (hn : rs.length ≤ 1000000000) : (orcω E X0).call 80 [.sl t (rs.map encRun)] = some (encLen (lengthM rs)) := by
  refine call_of rfl fn80 rfl ?_
  have hc := c107 false rs hn
  have hf := c108 false rs hn
  by_cases h : validate rs = 0
  · have h' : (validate rs != 0) = false := by simp [h]
    have hr : lengthM rs = (ln rs, 0) := by unfold lengthM; rw [if_pos h]
    rw [hr]
    simp only [Try.ntmps80, Try.results80, efc80, hc, h', hf, encLen, Option.getD_some, List.replicate, List.cons_append, List.nil_append, den_seq, den_region, den_block, den_cond, den_skip, den_ret, den_exit, evOps, evOp, evPlain, evVal, evMem, wantedV, St.eval, St.put, St.get, constV, List.set, List.getD_cons_zero, List.getD_cons_succ, Bool.false_eq_true, if_false, List.contains_nil, Bool.false_and, normally_some, andThen_normal, andThen_exit, andThen_ret, atBlock_normal, atBlock_exit, atBlock_ret, lenV, sliceOf, arrayOf, fieldsOf, onBool_true, onBool_false, after_normal, after_exit, after_ret, normOf, norm, firstRegion, look, maskFrom, evBin, evIndexS, evLoad, evVar, evStore, evFieldAddr, nameOf, St.alloc, St.drop, killL, kill, killAll, killObs, killOb, upd, cells?, part, retag, retagL, putIn, refFree, refFreeL, isNew, isNewL, Ty.isAgg, splice, idsL, ids, idsLL, reach, depth, St.dropL, outOfCall_some, atEnd_normal, atEnd_ret, resultsV, resultV, allM_nil, allM_cons, resolve_int, resolve_bool, resolve_lit, resolve_sl, resolve_fp, resolve_emp, resolve_agg, resolve_tup, resolve_clo, resolve_own, Option.map_some, Option.map_none, List.length_cons, List.length_nil, List.length_map, ↓reduceIte, List.contains_cons, Bool.or_false, Bool.false_or, Bool.or_true, Bool.true_or, Nat.reduceBEq, beq_self_eq_true, List.map_cons, List.map_nil, List.filter_cons, List.filter_nil, List.flatMap_cons, List.flatMap_nil, Bool.not_true, Bool.not_false, and_self, and_true, true_and, List.getElem?_cons_zero, List.getElem?_cons_succ, List.getElem?_nil, List.drop_succ_cons, List.drop_zero, List.take_succ_cons, List.take_zero, List.drop_nil, List.take_nil, List.append_nil, Nat.reduceAdd, Nat.reduceSub, Nat.reduceMul, Nat.reduceEqDiff, Nat.reduceLeDiff, Nat.le_refl, Option.getD_none, Bool.and_true, Bool.true_and, Bool.and_false, Bool.and_self, Nat.lt_irrefl, Nat.reduceLT, Nat.zero_add, evRegion_still, evE, effOf, effMem, effStore, effCall, effVar, effLit, effMake, effApp, Eff.ap, evCall, lend, evAppend, evLit, evMake, evNil, freeze, onto, dropO, elemsV, sized, evCmp, eqT, eqG, minV, evUn, evField, evExtract, evIndexA, evIndexV, evSlice, optInt, fillV, placeOf, thawed, del, List.contains_append, Option.bind_none, Option.bind_some, Bool.and_eq_true, decide_true, decide_false, Bool.not_eq_true', List.take_length, List.range_succ, List.range_zero, Option.some.injEq, ne_eq, not_false_eq_true, not_true_eq_false, List.all_cons, List.all_nil, isNilSlice, List.getElem?_toArray, beqT, beqF, Bool.cond_true, Bool.cond_false, or_self, true_or, or_true, or_false, false_or, plain, plainL, ask_true, ask_false, pickV_true, pickV_false, resolve_ptr, cellsJ, junkOk, evLook, evMap, evEnter, effEnter, findV, mapOf, keyOk, evFrame, unframe, closed, fixed, sameEs, pickObs, putObs, wit, sameWit, Option.isSome_some, den_regT, regG_no, frameG_no, frameG_yes, evNilCheck, te, einl, inls, efr]
  · have h' : (validate rs != 0) = true := by simp [h]
    have hr : lengthM rs = (0, validate rs) := by unfold lengthM; rw [if_neg h]
    rw [hr]
    simp only [Try.ntmps80, Try.results80, efc80, hc, h', encLen, Option.getD_some, List.replicate, List.cons_append, List.nil_append, den_seq, den_region, den_block, den_cond, den_skip, den_ret, den_exit, evOps, evOp, evPlain, evVal, evMem, wantedV, St.eval, St.put, St.get, constV, List.set, List.getD_cons_zero, List.getD_cons_succ, Bool.false_eq_true, if_false, List.contains_nil, Bool.false_and, normally_some, andThen_normal, andThen_exit, andThen_ret, atBlock_normal, atBlock_exit, atBlock_ret, lenV, sliceOf, arrayOf, fieldsOf, onBool_true, onBool_false, after_normal, after_exit, after_ret, normOf, norm, firstRegion, look, maskFrom, evBin, evIndexS, evLoad, evVar, evStore, evFieldAddr, nameOf, St.alloc, St.drop, killL, kill, killAll, killObs, killOb, upd, cells?, part, retag, retagL, putIn, refFree, refFreeL, isNew, isNewL, Ty.isAgg, splice, idsL, ids, idsLL, reach, depth, St.dropL, outOfCall_some, atEnd_normal, atEnd_ret, resultsV, resultV, allM_nil, allM_cons, resolve_int, resolve_bool, resolve_lit, resolve_sl, resolve_fp, resolve_emp, resolve_agg, resolve_tup, resolve_clo, resolve_own, Option.map_some, Option.map_none, List.length_cons, List.length_nil, List.length_map, ↓reduceIte, List.contains_cons, Bool.or_false, Bool.false_or, Bool.or_true, Bool.true_or, Nat.reduceBEq, beq_self_eq_true, List.map_cons, List.map_nil, List.filter_cons, List.filter_nil, List.flatMap_cons, List.flatMap_nil, Bool.not_true, Bool.not_false, and_self, and_true, true_and, List.getElem?_cons_zero, List.getElem?_cons_succ, List.getElem?_nil, List.drop_succ_cons, List.drop_zero, List.take_succ_cons, List.take_zero, List.drop_nil, List.take_nil, List.append_nil, Nat.reduceAdd, Nat.reduceSub, Nat.reduceMul, Nat.reduceEqDiff, Nat.reduceLeDiff, Nat.le_refl, Option.getD_none, Bool.and_true, Bool.true_and, Bool.and_false, Bool.and_self, Nat.lt_irrefl, Nat.reduceLT, Nat.zero_add, evRegion_still, evE, effOf, effMem, effStore, effCall, effVar, effLit, effMake, effApp, Eff.ap, evCall, lend, evAppend, evLit, evMake, evNil, freeze, onto, dropO, elemsV, sized, evCmp, eqT, eqG, minV, evUn, evField, evExtract, evIndexA, evIndexV, evSlice, optInt, fillV, placeOf, thawed, del, List.contains_append, Option.bind_none, Option.bind_some, Bool.and_eq_true, decide_true, decide_false, Bool.not_eq_true', List.take_length, List.range_succ, List.range_zero, Option.some.injEq, ne_eq, not_false_eq_true, not_true_eq_false, List.all_cons, List.all_nil, isNilSlice, List.getElem?_toArray, beqT, beqF, Bool.cond_true, Bool.cond_false, or_self, true_or, or_true, or_false, false_or, plain, plainL, ask_true, ask_false, pickV_true, pickV_false, resolve_ptr, cellsJ, junkOk, evLook, evMap, evEnter, effEnter, findV, mapOf, keyOk, evFrame, unframe, closed, fixed, sameEs, pickObs, putObs, wit, sameWit, Option.isSome_some, den_regT, regG_no, frameG_no, frameG_yes, evNilCheck, te, einl, inls, efr]

theorem refFree_runs (rs : List Run) : refFreeL (rs.map encRun) = true := by
  induction rs with
  | nil => rfl
  | cons r rs ih => simp only [List.map_cons, refFreeL, ih, encRun, refFree, Bool.and_self]
theorem isNew_runs (rs : List Run) : isNewL (rs.map encRun) = true := by
  induction rs with
  | nil => rfl
  | cons r rs ih => simp only [List.map_cons, isNewL, ih, encRun, isNew, Bool.and_self]
theorem plain_runs (rs : List Run) : plainL (rs.map encRun) = true := by
  induction rs with
  | nil => rfl
  | cons r rs ih => simp only [List.map_cons, plainL, ih, encRun, plain, Bool.and_self]
theorem sized_runs (rs : List Run) : sized 4 (rs.map encRun) = true := by
  induction rs with
  | nil => rfl
  | cons r rs ih => simp only [List.map_cons, sized, ih, encRun, cells?, List.length_cons, List.length_nil]; rfl

theorem c48 (t u : Bool) (rs qs : List Run) (hn : rs.length ≤ 1000000000) : (orcω E X0).call 48 [.sl t (rs.map encRun), .sl u (qs.map encRun)] = some (.bool (decide (rs = qs))) := by
  refine call_of rfl fn48 rfl ?_
  have hok : okCode (Try.f48.body.getD .skip) = true := by decide +kernel
  simp only [Try.f48, Option.getD_some, okCode, Bool.and_eq_true, Bool.and_true, Bool.true_and] at hok
  by_cases hl : rs.length = qs.length
  case neg =>
    have h1 : ((rs.length : Int) != qs.length) = true := by simp; omega
    have h2 : decide (rs = qs) = false := by simp; intro e; exact hl (by rw [e])
    simp only [Try.ntmps48, Try.results48, efc48, fc48, h1, h2, Option.getD_some, List.replicate, List.cons_append, List.nil_append, den_seq, den_region, den_block, den_cond, den_skip, den_ret, den_exit, evOps, evOp, evPlain, evVal, evMem, wantedV, St.eval, St.put, St.get, constV, List.set, List.getD_cons_zero, List.getD_cons_succ, Bool.false_eq_true, if_false, List.contains_nil, Bool.false_and, normally_some, andThen_normal, andThen_exit, andThen_ret, atBlock_normal, atBlock_exit, atBlock_ret, lenV, sliceOf, arrayOf, fieldsOf, onBool_true, onBool_false, after_normal, after_exit, after_ret, normOf, norm, firstRegion, look, maskFrom, evBin, evIndexS, evLoad, evVar, evStore, evFieldAddr, nameOf, St.alloc, St.drop, killL, kill, killAll, killObs, killOb, upd, cells?, part, retag, retagL, putIn, refFree, refFreeL, isNew, isNewL, Ty.isAgg, splice, idsL, ids, idsLL, reach, depth, St.dropL, outOfCall_some, atEnd_normal, atEnd_ret, resultsV, resultV, allM_nil, allM_cons, resolve_int, resolve_bool, resolve_lit, resolve_sl, resolve_fp, resolve_emp, resolve_agg, resolve_tup, resolve_clo, resolve_own, Option.map_some, Option.map_none, List.length_cons, List.length_nil, List.length_map, ↓reduceIte, List.contains_cons, Bool.or_false, Bool.false_or, Bool.or_true, Bool.true_or, Nat.reduceBEq, beq_self_eq_true, List.map_cons, List.map_nil, List.filter_cons, List.filter_nil, List.flatMap_cons, List.flatMap_nil, Bool.not_true, Bool.not_false, and_self, and_true, true_and, List.getElem?_cons_zero, List.getElem?_cons_succ, List.getElem?_nil, List.drop_succ_cons, List.drop_zero, List.take_succ_cons, List.take_zero, List.drop_nil, List.take_nil, List.append_nil, Nat.reduceAdd, Nat.reduceSub, Nat.reduceMul, Nat.reduceEqDiff, Nat.reduceLeDiff, Nat.le_refl, Option.getD_none, Bool.and_true, Bool.true_and, Bool.and_false, Bool.and_self, Nat.lt_irrefl, Nat.reduceLT, Nat.zero_add, evRegion_still, evE, effOf, effMem, effStore, effCall, effVar, effLit, effMake, effApp, Eff.ap, evCall, lend, evAppend, evLit, evMake, evNil, freeze, onto, dropO, elemsV, sized, evCmp, eqT, eqG, minV, evUn, evField, evExtract, evIndexA, evIndexV, evSlice, optInt, fillV, placeOf, thawed, del, List.contains_append, Option.bind_none, Option.bind_some, Bool.and_eq_true, decide_true, decide_false, Bool.not_eq_true', List.take_length, List.range_succ, List.range_zero, Option.some.injEq, ne_eq, not_false_eq_true, not_true_eq_false, List.all_cons, List.all_nil, isNilSlice, List.getElem?_toArray, beqT, beqF, Bool.cond_true, Bool.cond_false, or_self, true_or, or_true, or_false, false_or, plain, plainL, ask_true, ask_false, pickV_true, pickV_false, resolve_ptr, cellsJ, junkOk, evLook, evMap, evEnter, effEnter, findV, mapOf, keyOk, evFrame, unframe, closed, fixed, sameEs, pickObs, putObs, wit, sameWit, Option.isSome_some, den_regT, regG_no, frameG_no, frameG_yes, evNilCheck, te, einl, inls, efr]
  have h1 : ((rs.length : Int) != qs.length) = false := by simp; omega
  simp only [Try.ntmps48, Try.results48, efc48, fc48, h1, Option.getD_some, List.replicate, List.cons_append, List.nil_append, den_seq, den_region, den_block, den_cond, den_skip, den_ret, den_exit, evOps, evOp, evPlain, evVal, evMem, wantedV, St.eval, St.put, St.get, constV, List.set, List.getD_cons_zero, List.getD_cons_succ, Bool.false_eq_true, if_false, List.contains_nil, Bool.false_and, normally_some, andThen_normal, andThen_exit, andThen_ret, atBlock_normal, atBlock_exit, atBlock_ret, lenV, sliceOf, arrayOf, fieldsOf, onBool_true, onBool_false, after_normal, after_exit, after_ret, normOf, norm, firstRegion, look, maskFrom, evBin, evIndexS, evLoad, evVar, evStore, evFieldAddr, nameOf, St.alloc, St.drop, killL, kill, killAll, killObs, killOb, upd, cells?, part, retag, retagL, putIn, refFree, refFreeL, isNew, isNewL, Ty.isAgg, splice, idsL, ids, idsLL, reach, depth, St.dropL, outOfCall_some, atEnd_normal, atEnd_ret, resultsV, resultV, allM_nil, allM_cons, resolve_int, resolve_bool, resolve_lit, resolve_sl, resolve_fp, resolve_emp, resolve_agg, resolve_tup, resolve_clo, resolve_own, Option.map_some, Option.map_none, List.length_cons, List.length_nil, List.length_map, ↓reduceIte, List.contains_cons, Bool.or_false, Bool.false_or, Bool.or_true, Bool.true_or, Nat.reduceBEq, beq_self_eq_true, List.map_cons, List.map_nil, List.filter_cons, List.filter_nil, List.flatMap_cons, List.flatMap_nil, Bool.not_true, Bool.not_false, and_self, and_true, true_and, List.getElem?_cons_zero, List.getElem?_cons_succ, List.getElem?_nil, List.drop_succ_cons, List.drop_zero, List.take_succ_cons, List.take_zero, List.drop_nil, List.take_nil, List.append_nil, Nat.reduceAdd, Nat.reduceSub, Nat.reduceMul, Nat.reduceEqDiff, Nat.reduceLeDiff, Nat.le_refl, Option.getD_none, Bool.and_true, Bool.true_and, Bool.and_false, Bool.and_self, Nat.lt_irrefl, Nat.reduceLT, Nat.zero_add, evRegion_still, evE, effOf, effMem, effStore, effCall, effVar, effLit, effMake, effApp, Eff.ap, evCall, lend, evAppend, evLit, evMake, evNil, freeze, onto, dropO, elemsV, sized, evCmp, eqT, eqG, minV, evUn, evField, evExtract, evIndexA, evIndexV, evSlice, optInt, fillV, placeOf, thawed, del, List.contains_append, Option.bind_none, Option.bind_some, Bool.and_eq_true, decide_true, decide_false, Bool.not_eq_true', List.take_length, List.range_succ, List.range_zero, Option.some.injEq, ne_eq, not_false_eq_true, not_true_eq_false, List.all_cons, List.all_nil, isNilSlice, List.getElem?_toArray, beqT, beqF, Bool.cond_true, Bool.cond_false, or_self, true_or, or_true, or_false, false_or, plain, plainL, ask_true, ask_false, pickV_true, pickV_false, resolve_ptr, cellsJ, junkOk, evLook, evMap, evEnter, effEnter, findV, mapOf, keyOk, evFrame, unframe, closed, fixed, sameEs, pickObs, putObs, wit, sameWit, Option.isSome_some, den_regT, regG_no, frameG_no, frameG_yes, evNilCheck, te, einl, inls, efr]
  generalize hr : den E X0 _ 0 (Code.loop _) _ = r
  refine den_loop_post (K := fun x => outOfCall (atEnd E _ (andThen (atBlock 0 x) _)) = some _) hr (α := { p : List Run × List Run × List Run // rs = p.1 ++ p.2.1 ∧ qs = p.1 ++ p.2.2 })
    (fun a => { slots := [.sl t (rs.map encRun), .sl u (qs.map encRun), .junk, .junk, .junk, .int .i64 a.1.1.length] ++ List.replicate 20 .junk, outer := [], objs := [] })
    (fun a => a.1.2.1.length) ⟨([], rs, qs), rfl, rfl⟩ ?_ ?_ <;> clear hr
  · simp only [Option.getD_some, List.replicate, List.cons_append, List.nil_append, den_seq, den_region, den_block, den_cond, den_skip, den_ret, den_exit, evOps, evOp, evPlain, evVal, evMem, wantedV, St.eval, St.put, St.get, constV, List.set, List.getD_cons_zero, List.getD_cons_succ, Bool.false_eq_true, if_false, List.contains_nil, Bool.false_and, normally_some, andThen_normal, andThen_exit, andThen_ret, atBlock_normal, atBlock_exit, atBlock_ret, lenV, sliceOf, arrayOf, fieldsOf, onBool_true, onBool_false, after_normal, after_exit, after_ret, normOf, norm, firstRegion, look, maskFrom, evBin, evIndexS, evLoad, evVar, evStore, evFieldAddr, nameOf, St.alloc, St.drop, killL, kill, killAll, killObs, killOb, upd, cells?, part, retag, retagL, putIn, refFree, refFreeL, isNew, isNewL, Ty.isAgg, splice, idsL, ids, idsLL, reach, depth, St.dropL, outOfCall_some, atEnd_normal, atEnd_ret, resultsV, resultV, allM_nil, allM_cons, resolve_int, resolve_bool, resolve_lit, resolve_sl, resolve_fp, resolve_emp, resolve_agg, resolve_tup, resolve_clo, resolve_own, Option.map_some, Option.map_none, List.length_cons, List.length_nil, List.length_map, ↓reduceIte, List.contains_cons, Bool.or_false, Bool.false_or, Bool.or_true, Bool.true_or, Nat.reduceBEq, beq_self_eq_true, List.map_cons, List.map_nil, List.filter_cons, List.filter_nil, List.flatMap_cons, List.flatMap_nil, Bool.not_true, Bool.not_false, and_self, and_true, true_and, List.getElem?_cons_zero, List.getElem?_cons_succ, List.getElem?_nil, List.drop_succ_cons, List.drop_zero, List.take_succ_cons, List.take_zero, List.drop_nil, List.take_nil, List.append_nil, Nat.reduceAdd, Nat.reduceSub, Nat.reduceMul, Nat.reduceEqDiff, Nat.reduceLeDiff, Nat.le_refl, Option.getD_none, Bool.and_true, Bool.true_and, Bool.and_false, Bool.and_self, Nat.lt_irrefl, Nat.reduceLT, Nat.zero_add, evRegion_still, evE, effOf, effMem, effStore, effCall, effVar, effLit, effMake, effApp, Eff.ap, evCall, lend, evAppend, evLit, evMake, evNil, freeze, onto, dropO, elemsV, sized, evCmp, eqT, eqG, minV, evUn, evField, evExtract, evIndexA, evIndexV, evSlice, optInt, fillV, placeOf, thawed, del, List.contains_append, Option.bind_none, Option.bind_some, Bool.and_eq_true, decide_true, decide_false, Bool.not_eq_true', List.take_length, List.range_succ, List.range_zero, Option.some.injEq, ne_eq, not_false_eq_true, not_true_eq_false, List.all_cons, List.all_nil, isNilSlice, List.getElem?_toArray, beqT, beqF, Bool.cond_true, Bool.cond_false, or_self, true_or, or_true, or_false, false_or, plain, plainL, ask_true, ask_false, pickV_true, pickV_false, resolve_ptr, cellsJ, junkOk, evLook, evMap, evEnter, effEnter, findV, mapOf, keyOk, evFrame, unframe, closed, fixed, sameEs, pickObs, putObs, wit, sameWit, Option.isSome_some, den_regT, regG_no, frameG_no, frameG_yes, evNilCheck, te, einl, inls, efr, Int.natCast_zero]
  · rintro ⟨⟨pre, post, tail⟩, hp, hq⟩
    dsimp only at hp hq
    cases post with
    | nil =>
      have : tail = [] := by
        have e := congrArg List.length hp
        have e2 := congrArg List.length hq
        simp at e e2
        exact List.eq_nil_of_length_eq_zero (by omega)
      subst this
      simp only [List.append_nil] at hp hq
      subst hp; subst hq
      simp only [Try.results48, Int.lt_irrefl, Option.getD_some, List.replicate, List.cons_append, List.nil_append, den_seq, den_region, den_block, den_cond, den_skip, den_ret, den_exit, evOps, evOp, evPlain, evVal, evMem, wantedV, St.eval, St.put, St.get, constV, List.set, List.getD_cons_zero, List.getD_cons_succ, Bool.false_eq_true, if_false, List.contains_nil, Bool.false_and, normally_some, andThen_normal, andThen_exit, andThen_ret, atBlock_normal, atBlock_exit, atBlock_ret, lenV, sliceOf, arrayOf, fieldsOf, onBool_true, onBool_false, after_normal, after_exit, after_ret, normOf, norm, firstRegion, look, maskFrom, evBin, evIndexS, evLoad, evVar, evStore, evFieldAddr, nameOf, St.alloc, St.drop, killL, kill, killAll, killObs, killOb, upd, cells?, part, retag, retagL, putIn, refFree, refFreeL, isNew, isNewL, Ty.isAgg, splice, idsL, ids, idsLL, reach, depth, St.dropL, outOfCall_some, atEnd_normal, atEnd_ret, resultsV, resultV, allM_nil, allM_cons, resolve_int, resolve_bool, resolve_lit, resolve_sl, resolve_fp, resolve_emp, resolve_agg, resolve_tup, resolve_clo, resolve_own, Option.map_some, Option.map_none, List.length_cons, List.length_nil, List.length_map, ↓reduceIte, List.contains_cons, Bool.or_false, Bool.false_or, Bool.or_true, Bool.true_or, Nat.reduceBEq, beq_self_eq_true, List.map_cons, List.map_nil, List.filter_cons, List.filter_nil, List.flatMap_cons, List.flatMap_nil, Bool.not_true, Bool.not_false, and_self, and_true, true_and, List.getElem?_cons_zero, List.getElem?_cons_succ, List.getElem?_nil, List.drop_succ_cons, List.drop_zero, List.take_succ_cons, List.take_zero, List.drop_nil, List.take_nil, List.append_nil, Nat.reduceAdd, Nat.reduceSub, Nat.reduceMul, Nat.reduceEqDiff, Nat.reduceLeDiff, Nat.le_refl, Option.getD_none, Bool.and_true, Bool.true_and, Bool.and_false, Bool.and_self, Nat.lt_irrefl, Nat.reduceLT, Nat.zero_add, evRegion_still, evE, effOf, effMem, effStore, effCall, effVar, effLit, effMake, effApp, Eff.ap, evCall, lend, evAppend, evLit, evMake, evNil, freeze, onto, dropO, elemsV, sized, evCmp, eqT, eqG, minV, evUn, evField, evExtract, evIndexA, evIndexV, evSlice, optInt, fillV, placeOf, thawed, del, List.contains_append, Option.bind_none, Option.bind_some, Bool.and_eq_true, decide_true, decide_false, Bool.not_eq_true', List.take_length, List.range_succ, List.range_zero, Option.some.injEq, ne_eq, not_false_eq_true, not_true_eq_false, List.all_cons, List.all_nil, isNilSlice, List.getElem?_toArray, beqT, beqF, Bool.cond_true, Bool.cond_false, or_self, true_or, or_true, or_false, false_or, plain, plainL, ask_true, ask_false, pickV_true, pickV_false, resolve_ptr, cellsJ, junkOk, evLook, evMap, evEnter, effEnter, findV, mapOf, keyOk, evFrame, unframe, closed, fixed, sameEs, pickObs, putObs, wit, sameWit, Option.isSome_some, den_regT, regG_no, frameG_no, frameG_yes, evNilCheck, te, einl, inls, efr]
    | cons r post =>
      cases tail with
      | nil =>
        have e := congrArg List.length hp
        have e2 := congrArg List.length hq
        simp at e e2
        omega
      | cons q tail =>
        have hlt : ((pre.length : Int) < rs.length) := by subst hp; simp; omega
        have hget : rs[pre.length]? = some r := by subst hp; simp
        have hget2 : qs[pre.length]? = some q := by subst hq; simp
        have hlt' : pre.length < rs.length := by omega
        have hw : IntKind.i64.wrap ((pre.length : Int) + 1) = ((pre ++ [r]).length : Int) := by rw [IntWalk.i64_in _ (by omega)]; simp
        by_cases hrq : r = q
        · subst hrq
          simp only [Try.results48, hok, evRegion_static, hlt, Int.natCast_nonneg, Int.toNat_natCast, List.getElem?_map, hget, hget2, encRun, Option.getD_some, List.replicate, List.cons_append, List.nil_append, den_seq, den_region, den_block, den_cond, den_skip, den_ret, den_exit, evOps, evOp, evPlain, evVal, evMem, wantedV, St.eval, St.put, St.get, constV, List.set, List.getD_cons_zero, List.getD_cons_succ, Bool.false_eq_true, if_false, List.contains_nil, Bool.false_and, normally_some, andThen_normal, andThen_exit, andThen_ret, atBlock_normal, atBlock_exit, atBlock_ret, lenV, sliceOf, arrayOf, fieldsOf, onBool_true, onBool_false, after_normal, after_exit, after_ret, normOf, norm, firstRegion, look, maskFrom, evBin, evIndexS, evLoad, evVar, evStore, evFieldAddr, nameOf, St.alloc, St.drop, killL, kill, killAll, killObs, killOb, upd, cells?, part, retag, retagL, putIn, refFree, refFreeL, isNew, isNewL, Ty.isAgg, splice, idsL, ids, idsLL, reach, depth, St.dropL, outOfCall_some, atEnd_normal, atEnd_ret, resultsV, resultV, allM_nil, allM_cons, resolve_int, resolve_bool, resolve_lit, resolve_sl, resolve_fp, resolve_emp, resolve_agg, resolve_tup, resolve_clo, resolve_own, Option.map_some, Option.map_none, List.length_cons, List.length_nil, List.length_map, ↓reduceIte, List.contains_cons, Bool.or_false, Bool.false_or, Bool.or_true, Bool.true_or, Nat.reduceBEq, beq_self_eq_true, List.map_cons, List.map_nil, List.filter_cons, List.filter_nil, List.flatMap_cons, List.flatMap_nil, Bool.not_true, Bool.not_false, and_self, and_true, true_and, List.getElem?_cons_zero, List.getElem?_cons_succ, List.getElem?_nil, List.drop_succ_cons, List.drop_zero, List.take_succ_cons, List.take_zero, List.drop_nil, List.take_nil, List.append_nil, Nat.reduceAdd, Nat.reduceSub, Nat.reduceMul, Nat.reduceEqDiff, Nat.reduceLeDiff, Nat.le_refl, Option.getD_none, Bool.and_true, Bool.true_and, Bool.and_false, Bool.and_self, Nat.lt_irrefl, Nat.reduceLT, Nat.zero_add, evRegion_still, evE, effOf, effMem, effStore, effCall, effVar, effLit, effMake, effApp, Eff.ap, evCall, lend, evAppend, evLit, evMake, evNil, freeze, onto, dropO, elemsV, sized, evCmp, eqT, eqG, minV, evUn, evField, evExtract, evIndexA, evIndexV, evSlice, optInt, fillV, placeOf, thawed, del, List.contains_append, Option.bind_none, Option.bind_some, Bool.and_eq_true, decide_true, decide_false, Bool.not_eq_true', List.take_length, List.range_succ, List.range_zero, Option.some.injEq, ne_eq, not_false_eq_true, not_true_eq_false, List.all_cons, List.all_nil, isNilSlice, List.getElem?_toArray, beqT, beqF, Bool.cond_true, Bool.cond_false, or_self, true_or, or_true, or_false, false_or, plain, plainL, ask_true, ask_false, pickV_true, pickV_false, resolve_ptr, cellsJ, junkOk, evLook, evMap, evEnter, effEnter, findV, mapOf, keyOk, evFrame, unframe, closed, fixed, sameEs, pickObs, putObs, wit, sameWit, Option.isSome_some, den_regT, regG_no, frameG_no, frameG_yes, evNilCheck, te, einl, inls, efr]
          exact ⟨⟨(pre ++ [r], post, tail), by simpa using hp, by simpa using hq⟩, by simp only [hw, Option.getD_some, List.replicate, List.cons_append, List.nil_append, den_seq, den_region, den_block, den_cond, den_skip, den_ret, den_exit, evOps, evOp, evPlain, evVal, evMem, wantedV, St.eval, St.put, St.get, constV, List.set, List.getD_cons_zero, List.getD_cons_succ, Bool.false_eq_true, if_false, List.contains_nil, Bool.false_and, normally_some, andThen_normal, andThen_exit, andThen_ret, atBlock_normal, atBlock_exit, atBlock_ret, lenV, sliceOf, arrayOf, fieldsOf, onBool_true, onBool_false, after_normal, after_exit, after_ret, normOf, norm, firstRegion, look, maskFrom, evBin, evIndexS, evLoad, evVar, evStore, evFieldAddr, nameOf, St.alloc, St.drop, killL, kill, killAll, killObs, killOb, upd, cells?, part, retag, retagL, putIn, refFree, refFreeL, isNew, isNewL, Ty.isAgg, splice, idsL, ids, idsLL, reach, depth, St.dropL, outOfCall_some, atEnd_normal, atEnd_ret, resultsV, resultV, allM_nil, allM_cons, resolve_int, resolve_bool, resolve_lit, resolve_sl, resolve_fp, resolve_emp, resolve_agg, resolve_tup, resolve_clo, resolve_own, Option.map_some, Option.map_none, List.length_cons, List.length_nil, List.length_map, ↓reduceIte, List.contains_cons, Bool.or_false, Bool.false_or, Bool.or_true, Bool.true_or, Nat.reduceBEq, beq_self_eq_true, List.map_cons, List.map_nil, List.filter_cons, List.filter_nil, List.flatMap_cons, List.flatMap_nil, Bool.not_true, Bool.not_false, and_self, and_true, true_and, List.getElem?_cons_zero, List.getElem?_cons_succ, List.getElem?_nil, List.drop_succ_cons, List.drop_zero, List.take_succ_cons, List.take_zero, List.drop_nil, List.take_nil, List.append_nil, Nat.reduceAdd, Nat.reduceSub, Nat.reduceMul, Nat.reduceEqDiff, Nat.reduceLeDiff, Nat.le_refl, Option.getD_none, Bool.and_true, Bool.true_and, Bool.and_false, Bool.and_self, Nat.lt_irrefl, Nat.reduceLT, Nat.zero_add, evRegion_still, evE, effOf, effMem, effStore, effCall, effVar, effLit, effMake, effApp, Eff.ap, evCall, lend, evAppend, evLit, evMake, evNil, freeze, onto, dropO, elemsV, sized, evCmp, eqT, eqG, minV, evUn, evField, evExtract, evIndexA, evIndexV, evSlice, optInt, fillV, placeOf, thawed, del, List.contains_append, Option.bind_none, Option.bind_some, Bool.and_eq_true, decide_true, decide_false, Bool.not_eq_true', List.take_length, List.range_succ, List.range_zero, Option.some.injEq, ne_eq, not_false_eq_true, not_true_eq_false, List.all_cons, List.all_nil, isNilSlice, List.getElem?_toArray, beqT, beqF, Bool.cond_true, Bool.cond_false, or_self, true_or, or_true, or_false, false_or, plain, plainL, ask_true, ask_false, pickV_true, pickV_false, resolve_ptr, cellsJ, junkOk, evLook, evMap, evEnter, effEnter, findV, mapOf, keyOk, evFrame, unframe, closed, fixed, sameEs, pickObs, putObs, wit, sameWit, Option.isSome_some, den_regT, regG_no, frameG_no, frameG_yes, evNilCheck, te, einl, inls, efr], Nat.lt_succ_self _⟩
        · have hne : decide (rs = qs) = false := by
            simp; intro e; rw [hp, hq] at e; simp at e; exact hrq e.1
          have hcmp : (r.len == q.len && (r.thick == q.thick && (r.shade == q.shade && r.flaw == q.flaw))) = false := by
            cases hb : (r.len == q.len && (r.thick == q.thick && (r.shade == q.shade && r.flaw == q.flaw))) with
            | false => rfl
            | true =>
              exfalso
              simp at hb
              apply hrq
              cases r; cases q
              simp_all
          simp only [Try.results48, hok, evRegion_static, hlt, Int.natCast_nonneg, Int.toNat_natCast, List.getElem?_map, hget, hget2, encRun, hcmp, hne, Option.getD_some, List.replicate, List.cons_append, List.nil_append, den_seq, den_region, den_block, den_cond, den_skip, den_ret, den_exit, evOps, evOp, evPlain, evVal, evMem, wantedV, St.eval, St.put, St.get, constV, List.set, List.getD_cons_zero, List.getD_cons_succ, Bool.false_eq_true, if_false, List.contains_nil, Bool.false_and, normally_some, andThen_normal, andThen_exit, andThen_ret, atBlock_normal, atBlock_exit, atBlock_ret, lenV, sliceOf, arrayOf, fieldsOf, onBool_true, onBool_false, after_normal, after_exit, after_ret, normOf, norm, firstRegion, look, maskFrom, evBin, evIndexS, evLoad, evVar, evStore, evFieldAddr, nameOf, St.alloc, St.drop, killL, kill, killAll, killObs, killOb, upd, cells?, part, retag, retagL, putIn, refFree, refFreeL, isNew, isNewL, Ty.isAgg, splice, idsL, ids, idsLL, reach, depth, St.dropL, outOfCall_some, atEnd_normal, atEnd_ret, resultsV, resultV, allM_nil, allM_cons, resolve_int, resolve_bool, resolve_lit, resolve_sl, resolve_fp, resolve_emp, resolve_agg, resolve_tup, resolve_clo, resolve_own, Option.map_some, Option.map_none, List.length_cons, List.length_nil, List.length_map, ↓reduceIte, List.contains_cons, Bool.or_false, Bool.false_or, Bool.or_true, Bool.true_or, Nat.reduceBEq, beq_self_eq_true, List.map_cons, List.map_nil, List.filter_cons, List.filter_nil, List.flatMap_cons, List.flatMap_nil, Bool.not_true, Bool.not_false, and_self, and_true, true_and, List.getElem?_cons_zero, List.getElem?_cons_succ, List.getElem?_nil, List.drop_succ_cons, List.drop_zero, List.take_succ_cons, List.take_zero, List.drop_nil, List.take_nil, List.append_nil, Nat.reduceAdd, Nat.reduceSub, Nat.reduceMul, Nat.reduceEqDiff, Nat.reduceLeDiff, Nat.le_refl, Option.getD_none, Bool.and_true, Bool.true_and, Bool.and_false, Bool.and_self, Nat.lt_irrefl, Nat.reduceLT, Nat.zero_add, evRegion_still, evE, effOf, effMem, effStore, effCall, effVar, effLit, effMake, effApp, Eff.ap, evCall, lend, evAppend, evLit, evMake, evNil, freeze, onto, dropO, elemsV, sized, evCmp, eqT, eqG, minV, evUn, evField, evExtract, evIndexA, evIndexV, evSlice, optInt, fillV, placeOf, thawed, del, List.contains_append, Option.bind_none, Option.bind_some, Bool.and_eq_true, decide_true, decide_false, Bool.not_eq_true', List.take_length, List.range_succ, List.range_zero, Option.some.injEq, ne_eq, not_false_eq_true, not_true_eq_false, List.all_cons, List.all_nil, isNilSlice, List.getElem?_toArray, beqT, beqF, Bool.cond_true, Bool.cond_false, or_self, true_or, or_true, or_false, false_or, plain, plainL, ask_true, ask_false, pickV_true, pickV_false, resolve_ptr, cellsJ, junkOk, evLook, evMap, evEnter, effEnter, findV, mapOf, keyOk, evFrame, unframe, closed, fixed, sameEs, pickObs, putObs, wit, sameWit, Option.isSome_some, den_regT, regG_no, frameG_no, frameG_yes, evNilCheck, te, einl, inls, efr]

def pushR (acc : List Run) (r : Run) : List Run := if r.len = 0 then acc else push acc r
def joinR (rs : List Run) : List Run := rs.foldl pushR []

end Go.AM.B
end

section
namespace Go.AM.B
open Go Go.Proofs

theorem pushR_le (acc : List Run) (r : Run) : (pushR acc r).length ≤ acc.length + 1 := by
  unfold pushR
  split
  · omega
  · exact push_le acc r

end Go.AM.B
end

section
namespace Go.AM.B
open Go Go.Proofs

theorem joinR_le (rs : List Run) : (joinR rs).length ≤ rs.length := by
  have : ∀ (rs acc : List Run), (rs.foldl pushR acc).length ≤ acc.length + rs.length := by
    intro rs
    induction rs with
    | nil => intro acc; simp
    | cons r rs ih =>
      intro acc
      have h1 := ih (pushR acc r)
      have h2 := pushR_le acc r
      simp only [List.foldl_cons, List.length_cons]
      omega
  simpa [joinR] using this rs []

theorem valid_all {rs : List Run} (h : validate rs = 0) : rs.all wellB = true := by
  unfold validate at h
  split at h
  · omega
  · split at h
    · assumption
    · omega

theorem well_pos {r : Run} (h : wellB r = true) : r.len ≠ 0 := by
  simp [wellB, inB] at h
  omega

theorem join_eq {rs : List Run} (h : validate rs = 0) : joinR rs = joinedL rs := by
  have := valid_all h
  unfold joinR joinedL
  have key : ∀ (rs acc : List Run), rs.all wellB = true → rs.foldl pushR acc = rs.foldl push acc := by
    intro rs
    induction rs with
    | nil => intro acc _; rfl
    | cons r rs ih =>
      intro acc h
      simp only [List.all_cons, Bool.and_eq_true] at h
      simp only [List.foldl_cons]
      rw [ih _ h.2]
      congr 1
      unfold pushR
      rw [if_neg (well_pos h.1)]
  exact key rs [] this

/-- What spoil does to an object. -/
def spoilt (rs : List Run) (k : Nat) : List Run := (rs.take k).map (fun r => { r with len := -1 }) ++ rs.drop k

theorem spoilt_get {rs : List Run} {k : Nat} {r : Run} (h : rs[k]? = some r) : (spoilt rs k)[k]? = some r := by
  have hk : k < rs.length := (List.getElem?_eq_some_iff.1 h).1
  unfold spoilt
  rw [List.getElem?_append_right (by simp; omega)]
  simp only [List.length_map, List.length_take]
  rw [show k - min k rs.length = 0 by omega]
  simpa using h

theorem spoilt_set {rs : List Run} {k : Nat} {r : Run} (h : rs[k]? = some r) : (spoilt rs k).set k { r with len := -1 } = spoilt rs (k + 1) := by
  have hk : k < rs.length := (List.getElem?_eq_some_iff.1 h).1
  unfold spoilt
  rw [List.set_append_right _ _ (by simp; omega)]
  simp only [List.length_map, List.length_take]
  rw [show k - min k rs.length = 0 by omega, List.drop_eq_getElem_cons hk, List.set_cons_zero, List.take_add_one, h]
  have : rs[k] = r := by rw [List.getElem?_eq_getElem hk] at h; exact Option.some.inj h
  simp

end Go.AM.B
end

section
/-
Bands as lists of marks, place by place: what joining, cutting and comparing runs mean.
-/
namespace Go.AM.B
open Go Go.Proofs

structure Mk where
  thick : Int
  shade : Int
  flaw : Int
  deriving DecidableEq

def Run.mk' (r : Run) : Mk := ⟨r.thick, r.shade, r.flaw⟩
def runOf (n : Int) (m : Mk) : Run := ⟨n, m.thick, m.shade, m.flaw⟩
def expand (rs : List Run) : List Mk := rs.flatMap fun r => List.replicate r.len.toNat r.mk'

theorem same_iff (r s : Run) : same r s = decide (r.mk' = s.mk') := by
  cases r; cases s
  rw [Bool.eq_iff_iff]
  simp [same, Run.mk']

theorem expand_nil : expand [] = [] := rfl
theorem expand_cons (r : Run) (rs : List Run) : expand (r :: rs) = List.replicate r.len.toNat r.mk' ++ expand rs := rfl
theorem expand_app (rs qs : List Run) : expand (rs ++ qs) = expand rs ++ expand qs := by simp [expand]

def pushM (acc : List Run) (m : Mk) : List Run := push acc (runOf 1 m)
def rle (ms : List Mk) : List Run := ms.foldl pushM []

theorem mk_runOf (n : Int) (m : Mk) : (runOf n m).mk' = m := rfl
theorem runOf_mk (r : Run) : runOf r.len r.mk' = r := rfl

theorem push_nil (r : Run) : push [] r = [r] := rfl
theorem push_same (l : List Run) (s r : Run) (h : s.mk' = r.mk') : push (l ++ [s]) r = l ++ [merge s r] := by
  unfold push
  simp [same_iff, h, List.set_append]
theorem push_other (l : List Run) (s r : Run) (h : s.mk' ≠ r.mk') : push (l ++ [s]) r = l ++ [s, r] := by
  unfold push
  simp [same_iff, h]

/-- All lengths are from 1 to B. -/
def Lens (B : Int) (rs : List Run) : Prop := ∀ r ∈ rs, 1 ≤ r.len ∧ r.len ≤ B

theorem snoc_cases {α : Type} (l : List α) : l = [] ∨ ∃ i x, l = i ++ [x] := by
  rcases List.eq_nil_or_concat l with rfl | ⟨i, x, rfl⟩
  · exact .inl rfl
  · exact .inr ⟨i, x, by simp⟩

theorem push_lens {B C : Int} {acc : List Run} {r : Run} (h : Lens B acc) (hr : 1 ≤ r.len) (hB : 0 ≤ B) (hC : B + r.len ≤ C) (hm : C ≤ 1000000000000) : Lens C (push acc r) := by
  rcases snoc_cases acc with rfl | ⟨i, s, rfl⟩
  · rw [push_nil]
    intro q hq
    simp only [List.mem_singleton] at hq
    subst hq
    exact ⟨hr, by omega⟩
  · have hs := h s (by simp)
    by_cases e : s.mk' = r.mk'
    · rw [push_same _ _ _ e]
      intro q hq
      rcases List.mem_append.1 hq with hq | hq
      · have := h q (by simp [hq]); omega
      · simp only [List.mem_singleton] at hq
        subst hq
        have : IntKind.i64.wrap (s.len + r.len) = s.len + r.len := wrap_in (by omega)
        simp only [merge, this]
        omega
    · rw [push_other _ _ _ e]
      intro q hq
      simp only [List.mem_append, List.mem_cons, List.not_mem_nil, or_false] at hq
      rcases hq with hq | rfl | rfl
      · have := h q (by simp [hq]); omega
      · omega
      · omega

theorem push_expand {B : Int} {acc : List Run} {r : Run} (h : Lens B acc) (hr : 1 ≤ r.len) (hm : B + r.len ≤ 1000000000000) : expand (push acc r) = expand acc ++ List.replicate r.len.toNat r.mk' := by
  rcases snoc_cases acc with rfl | ⟨i, s, rfl⟩
  · simp [push_nil, expand]
  · have hs := h s (by simp)
    by_cases e : s.mk' = r.mk'
    · rw [push_same _ _ _ e]
      have hw : IntKind.i64.wrap (s.len + r.len) = s.len + r.len := wrap_in (by omega)
      have : (merge s r).mk' = s.mk' := rfl
      simp only [expand_app, expand_cons, expand_nil, List.append_nil, this, List.append_assoc]
      congr 1
      rw [← e, List.replicate_append_replicate]
      congr 1
      simp only [merge, hw]
      omega
    · rw [push_other _ _ _ e]
      simp [expand_app, expand_cons, expand_nil]

/-- Neighbors differ. -/
def Normal : List Run → Prop
  | [] => True
  | [_] => True
  | r :: s :: l => r.mk' ≠ s.mk' ∧ Normal (s :: l)

theorem normal_snoc : ∀ (l : List Run) (s r : Run), Normal (l ++ [s]) → s.mk' ≠ r.mk' → Normal (l ++ [s, r])
  | [], s, r, _, h => ⟨h, trivial⟩
  | [x], s, r, hn, h => ⟨hn.1, h, trivial⟩
  | x :: y :: l, s, r, hn, h => ⟨hn.1, normal_snoc (y :: l) s r hn.2 h⟩

theorem normal_last : ∀ (l : List Run) (s r : Run), Normal (l ++ [s]) → s.mk' = r.mk' → Normal (l ++ [r])
  | [], _, _, _, _ => trivial
  | [x], s, r, hn, h => ⟨by rw [← h]; exact hn.1, trivial⟩
  | x :: y :: l, s, r, hn, h => ⟨hn.1, normal_last (y :: l) s r hn.2 h⟩

theorem push_normal {acc : List Run} {r : Run} (h : Normal acc) : Normal (push acc r) := by
  rcases snoc_cases acc with rfl | ⟨i, s, rfl⟩
  · exact trivial
  · by_cases e : s.mk' = r.mk'
    · rw [push_same _ _ _ e]
      exact normal_last i s _ h rfl
    · rw [push_other _ _ _ e]
      exact normal_snoc i s r h e

theorem snoc_ind {α : Type} {P : List α → Prop} (h0 : P []) (h1 : ∀ l x, P l → P (l ++ [x])) (l : List α) : P l := by
  have : ∀ (n : Nat) (l : List α), l.length = n → P l := by
    intro n
    induction n with
    | zero => intro l hl; rw [List.eq_nil_of_length_eq_zero hl]; exact h0
    | succ n ih =>
      intro l hl
      rcases snoc_cases l with rfl | ⟨i, x, rfl⟩
      · simp at hl
      · exact h1 i x (ih i (by simpa using hl))
  exact this l.length l rfl

theorem rle_snoc (ms : List Mk) (m : Mk) : rle (ms ++ [m]) = push (rle ms) (runOf 1 m) := by simp [rle, pushM]

theorem rle_ok (ms : List Mk) (h : ms.length ≤ 100000000000) : Lens ms.length (rle ms) ∧ expand (rle ms) = ms ∧ Normal (rle ms) := by
  induction ms using snoc_ind with
  | h0 => exact ⟨fun r hr => by simp [rle] at hr, rfl, trivial⟩
  | h1 ms m ih =>
    simp only [List.length_append, List.length_cons, List.length_nil] at h ⊢
    obtain ⟨h1, h2, h3⟩ := ih (by omega)
    rw [rle_snoc]
    refine ⟨push_lens h1 (by simp [runOf]) (by omega) (by simp [runOf]) (by omega), ?_, push_normal h3⟩
    rw [push_expand h1 (by simp [runOf]) (by simp [runOf]; omega), h2]
    rfl

theorem push_rep (m : Mk) : ∀ (n : Nat) {acc : List Run} {B : Int}, Lens B acc → 0 ≤ B → B + (n + 1 : Nat) ≤ 100000000000 → (List.replicate (n + 1) m).foldl pushM acc = push acc (runOf ((n + 1 : Nat) : Int) m)
  | 0, acc, B, _, _, _ => rfl
  | n + 1, acc, B, h, hB, hn => by
    rw [List.replicate_succ', List.foldl_append, push_rep m n h hB (by omega)]
    simp only [List.foldl_cons, List.foldl_nil, pushM]
    rcases snoc_cases acc with rfl | ⟨i, s, rfl⟩
    · rw [push_nil, push_nil]
      rw [show [runOf ((n + 1 : Nat) : Int) m] = [] ++ [runOf ((n + 1 : Nat) : Int) m] from rfl, push_same _ _ _ (show (runOf ((n + 1 : Nat) : Int) m).mk' = (runOf 1 m).mk' from rfl)]
      have : IntKind.i64.wrap (((n + 1 : Nat) : Int) + 1) = ((n + 1 + 1 : Nat) : Int) := by rw [wrap_in (by omega)]; omega
      simp only [Int.natCast_add, Int.natCast_one] at this
      simp [merge, runOf, this]
    · have hs := h s (by simp)
      by_cases e : s.mk' = m
      · rw [push_same _ _ _ (by simpa [mk_runOf] using e), push_same _ _ _ (show (merge s (runOf ((n + 1 : Nat) : Int) m)).mk' = (runOf 1 m).mk' from e), push_same _ _ _ (by simpa [mk_runOf] using e)]
        have h1 : IntKind.i64.wrap (s.len + ((n + 1 : Nat) : Int)) = s.len + ((n + 1 : Nat) : Int) := wrap_in (by omega)
        have h2 : IntKind.i64.wrap (s.len + ((n + 1 : Nat) : Int) + 1) = s.len + ((n + 1 : Nat) : Int) + 1 := wrap_in (by omega)
        have h3 : IntKind.i64.wrap (s.len + ((n + 1 + 1 : Nat) : Int)) = s.len + ((n + 1 : Nat) : Int) + 1 := by rw [wrap_in (by omega)]; omega
        simp [merge, runOf] at h1 h2 h3 ⊢
        rw [h1, h2, h3]
      · have e1 : s.mk' ≠ (runOf ((n + 1 : Nat) : Int) m).mk' := by simpa [mk_runOf] using e
        have e2 : s.mk' ≠ (runOf ((n + 1 + 1 : Nat) : Int) m).mk' := by simpa [mk_runOf] using e
        rw [push_other _ _ _ e1, push_other _ _ _ e2]
        rw [show i ++ [s, runOf ((n + 1 : Nat) : Int) m] = (i ++ [s]) ++ [runOf ((n + 1 : Nat) : Int) m] by simp, push_same _ _ _ (show (runOf ((n + 1 : Nat) : Int) m).mk' = (runOf 1 m).mk' from rfl)]
        have : IntKind.i64.wrap (((n + 1 : Nat) : Int) + 1) = ((n + 1 + 1 : Nat) : Int) := by rw [wrap_in (by omega)]; omega
        simp only [Int.natCast_add, Int.natCast_one] at this
        simp [merge, runOf, this]

def total (rs : List Run) : Int := (rs.map Run.len).sum

theorem total_cons (r : Run) (rs : List Run) : total (r :: rs) = r.len + total rs := by simp [total]
theorem total_app (rs qs : List Run) : total (rs ++ qs) = total rs + total qs := by simp [total]
theorem total_nil : total [] = 0 := rfl

theorem total_nonneg {B : Int} {rs : List Run} (h : Lens B rs) : 0 ≤ total rs := by
  induction rs with
  | nil => exact Int.le_refl _
  | cons r rs ih =>
    have := ih fun q hq => h q (List.mem_cons_of_mem _ hq)
    have := h r List.mem_cons_self
    rw [total_cons]; omega

theorem expand_length {B : Int} {rs : List Run} (h : Lens B rs) : ((expand rs).length : Int) = total rs := by
  induction rs with
  | nil => rfl
  | cons r rs ih =>
    have h1 := ih fun q hq => h q (List.mem_cons_of_mem _ hq)
    have h2 := h r List.mem_cons_self
    rw [expand_cons, List.length_append, List.length_replicate, total_cons]
    omega

theorem joined_acc {rs : List Run} : ∀ {acc : List Run} {B : Int}, Lens B acc → 0 ≤ B → (∀ r ∈ rs, 1 ≤ r.len) → B + total rs ≤ 10000000000 → rs.foldl push acc = (expand rs).foldl pushM acc := by
  induction rs with
  | nil => intro acc B _ _ _ _; rfl
  | cons r rs ih =>
    intro acc B h hB hr ht
    have h1 := hr r List.mem_cons_self
    rw [total_cons] at ht
    have h0 : 0 ≤ total rs := total_nonneg (B := total rs + 10000000000) (fun q hq => ⟨hr q (List.mem_cons_of_mem _ hq), by
      have : ∀ (l : List Run) (q : Run), (∀ r ∈ l, 1 ≤ r.len) → q ∈ l → q.len ≤ total l := by
        intro l
        induction l with
        | nil => intro q _ hq; cases hq
        | cons x l ih =>
          intro q hl hq
          have hx := hl x List.mem_cons_self
          have hnn : 0 ≤ total l := by
            clear ih hq
            induction l with
            | nil => exact Int.le_refl _
            | cons y l ih2 =>
              have := ih2 fun z hz => hl z (by rcases List.mem_cons.1 hz with rfl | hz; exact List.mem_cons_self; exact List.mem_cons_of_mem _ (List.mem_cons_of_mem _ hz))
              have := hl y (List.mem_cons_of_mem _ List.mem_cons_self)
              rw [total_cons]; omega
          rw [total_cons]
          rcases List.mem_cons.1 hq with rfl | hq
          · omega
          · have := ih q (fun z hz => hl z (List.mem_cons_of_mem _ hz)) hq; omega
      have := this rs q (fun z hz => hr z (List.mem_cons_of_mem _ hz)) hq
      omega⟩)
    rw [List.foldl_cons, expand_cons, List.foldl_append]
    obtain ⟨n, hn⟩ : ∃ n : Nat, r.len = ((n + 1 : Nat) : Int) := ⟨r.len.toNat - 1, by omega⟩
    have hrn : r.len.toNat = n + 1 := by omega
    rw [hrn, push_rep r.mk' n h hB (by omega), ← hn, runOf_mk]
    exact ih (push_lens h h1 hB (Int.le_refl _) (by omega)) (by omega) (fun q hq => hr q (List.mem_cons_of_mem _ hq)) (by omega)

theorem joined_rle {rs : List Run} (hr : ∀ r ∈ rs, 1 ≤ r.len) (ht : total rs ≤ 10000000000) : joinedL rs = rle (expand rs) :=
  joined_acc (B := 0) (fun r h => by cases h) (Int.le_refl _) hr (by omega)

theorem expand_pos {rs : List Run} : expand (rs.filter fun r => r.len ≠ 0) = expand rs := by
  induction rs with
  | nil => rfl
  | cons r rs ih =>
    by_cases h : r.len = 0
    · rw [List.filter_cons_of_neg (by simp [h]), ih, expand_cons, h]; rfl
    · rw [List.filter_cons_of_pos (by simp [h]), expand_cons, ih, expand_cons]

theorem joinR_filter (rs : List Run) : joinR rs = joinedL (rs.filter fun r => r.len ≠ 0) := by
  unfold joinR joinedL
  have : ∀ acc, rs.foldl pushR acc = (rs.filter fun r => r.len ≠ 0).foldl push acc := by
    induction rs with
    | nil => intro acc; rfl
    | cons r rs ih =>
      intro acc
      by_cases h : r.len = 0
      · simp [h, pushR, ih]
      · simp [h, pushR, ih]
  exact this []

theorem normal_head_ne {r : Run} {rs : List Run} {B : Int} (h : Normal (r :: rs)) (hl : Lens B rs) : (expand rs).head? ≠ some r.mk' := by
  cases rs with
  | nil => simp [expand]
  | cons s rs =>
    have := hl s List.mem_cons_self
    obtain ⟨n, hn⟩ : ∃ n, s.len.toNat = n + 1 := ⟨s.len.toNat - 1, by omega⟩
    rw [expand_cons, hn, List.replicate_succ]
    simp only [List.cons_append, List.head?_cons, ne_eq, Option.some.injEq]
    exact fun e => h.1 e.symm

theorem normal_tail {r : Run} {rs : List Run} (h : Normal (r :: rs)) : Normal rs := by
  cases rs with
  | nil => trivial
  | cons s rs => exact h.2

/-- How many first marks are the same. -/
def cpl : List Mk → List Mk → Nat
  | a :: x, b :: y => if a = b then cpl x y + 1 else 0
  | _, _ => 0

theorem cpl_app (l x y : List Mk) : cpl (l ++ x) (l ++ y) = l.length + cpl x y := by
  induction l with
  | nil => simp
  | cons a l ih => simp [cpl, ih]; omega

theorem cpl_self (l : List Mk) : cpl l l = l.length := by
  have := cpl_app l [] []
  simpa [cpl] using this

theorem cpl_ne {x y : List Mk} (h : x.head? ≠ y.head? ∨ x = [] ∨ y = []) : cpl x y = 0 := by
  unfold cpl
  split
  · rename_i a x b y
    rcases h with h | h | h
    · rw [if_neg fun e => h (by simp [e])]
    · cases h
    · cases h
  · rfl

theorem cpl_step {r s : Run} {x y : List Run} {B C : Int} (hr : Lens B (r :: x)) (hs : Lens C (s :: y)) (nx : Normal (r :: x)) (ny : Normal (s :: y)) :
    (cpl (expand (r :: x)) (expand (s :: y)) : Int) = if r.mk' ≠ s.mk' then 0 else if r.len = s.len then r.len + cpl (expand x) (expand y) else min r.len s.len := by
  have h1 := hr r List.mem_cons_self
  have h2 := hs s List.mem_cons_self
  have hx : Lens B x := fun q hq => hr q (List.mem_cons_of_mem _ hq)
  have hy : Lens C y := fun q hq => hs q (List.mem_cons_of_mem _ hq)
  obtain ⟨n, hn⟩ : ∃ n, r.len.toNat = n + 1 := ⟨r.len.toNat - 1, by omega⟩
  obtain ⟨k, hk⟩ : ∃ k, s.len.toNat = k + 1 := ⟨s.len.toNat - 1, by omega⟩
  by_cases e : r.mk' = s.mk'
  · rw [if_neg (by simpa using e)]
    rw [expand_cons, expand_cons, ← e]
    by_cases el : r.len = s.len
    · rw [if_pos el, ← el, cpl_app, List.length_replicate]
      omega
    · rw [if_neg el]
      rcases Nat.lt_or_ge r.len.toNat s.len.toNat with hlt | hge
      · have h3 : s.len.toNat = r.len.toNat + (s.len.toNat - r.len.toNat) := by omega
        rw [h3, ← List.replicate_append_replicate, List.append_assoc, cpl_app, List.length_replicate, cpl_ne]
        · omega
        · left
          obtain ⟨j, hj⟩ : ∃ j, s.len.toNat - r.len.toNat = j + 1 := ⟨s.len.toNat - r.len.toNat - 1, by omega⟩
          rw [hj, List.replicate_succ]
          exact normal_head_ne nx hx
      · have h3 : r.len.toNat = s.len.toNat + (r.len.toNat - s.len.toNat) := by omega
        rw [h3, ← List.replicate_append_replicate, List.append_assoc, cpl_app, List.length_replicate, cpl_ne]
        · omega
        · left
          obtain ⟨j, hj⟩ : ∃ j, r.len.toNat - s.len.toNat = j + 1 := ⟨r.len.toNat - s.len.toNat - 1, by omega⟩
          rw [hj, List.replicate_succ]
          rw [e]
          exact fun h => normal_head_ne ny hy h.symm
  · rw [if_pos e, expand_cons, expand_cons, hn, hk, List.replicate_succ, List.replicate_succ, cpl_ne]
    · rfl
    · left
      simpa using e

theorem cpl_nil_left (x : List Mk) : cpl [] x = 0 := by unfold cpl; rfl
theorem cpl_nil_right (x : List Mk) : cpl x [] = 0 := by cases x <;> rfl

theorem rle_inj {x y : List Mk} (hx : x.length ≤ 100000000000) (hy : y.length ≤ 100000000000) (h : rle x = rle y) : x = y := by
  rw [← (rle_ok x hx).2.1, ← (rle_ok y hy).2.1, h]

theorem cpl_all {x y : List Mk} (h1 : cpl x y = x.length) (h2 : cpl x y = y.length) : x = y := by
  induction x generalizing y with
  | nil =>
    cases y with
    | nil => rfl
    | cons b y => simp [cpl] at h2
  | cons a x ih =>
    cases y with
    | nil => simp [cpl] at h1
    | cons b y =>
      simp only [cpl, List.length_cons] at h1 h2
      split at h1
      · rename_i e
        rw [if_pos e] at h2
        subst e
        rw [ih (Nat.succ.inj h1) (Nat.succ.inj h2)]
      · omega
end Go.AM.B
end

section
namespace Go.AM.B
open Go Go.Proofs

def both (xs ys : List Run) : Int := if validate xs = 0 then validate ys else validate xs

def encSl (p : Bool × List Run) : V := .sl p.1 (p.2.map encRun)

end Go.AM.B
end

section
namespace Go.AM.B
open Go Go.Proofs

def isYes : Option V → Bool
  | some (.bool true) => true
  | _ => false

theorem isYes_eq {r : Option V} (h : isYes r = true) : r = some (.bool true) := by
  unfold isYes at h
  split at h
  · rfl
  · cases h

theorem normal_le (rs : List Run) : (normal rs).1.length ≤ rs.length := by
  unfold normal finished
  split
  · split
    · exact Nat.zero_le _
    · exact joined_le rs
  · exact Nat.zero_le _

end Go.AM.B
end

section
namespace Go.AM.B
open Go Go.Proofs

theorem joinR_eq {rs : List Run} (h : ∀ r ∈ rs, r.len ≠ 0) : joinR rs = joinedL rs := by
  rw [joinR_filter]
  congr 1
  rw [List.filter_eq_self]
  intro r hr
  simpa using h r hr

theorem valid_pos {rs : List Run} (h : validate rs = 0) : ∀ r ∈ rs, r.len ≠ 0 := fun r hr => well_pos (List.all_eq_true.1 (valid_all h) r hr)

theorem both_zero {xs ys : List Run} (h : both xs ys = 0) : validate xs = 0 ∧ validate ys = 0 := by
  unfold both at h
  split at h
  · exact ⟨by assumption, h⟩
  · exact absurd h (by assumption)

def joinM (xs ys : List Run) : List Run × Int := if both xs ys = 0 then finished (joinedL (xs ++ ys)) else ([], both xs ys)
def revM (xs : List Run) : List Run × Int := if validate xs = 0 then finished (joinedL xs.reverse) else ([], validate xs)

theorem finished_le (js : List Run) : (finished js).1.length ≤ js.length := by
  unfold finished
  split
  · exact Nat.zero_le _
  · exact Nat.le_refl _

theorem joinM_le (xs ys : List Run) : (joinM xs ys).1.length ≤ xs.length + ys.length := by
  unfold joinM
  split
  · refine Nat.le_trans (finished_le _) (Nat.le_trans (joined_le _) ?_)
    simp
  · exact Nat.zero_le _

theorem revM_le (xs : List Run) : (revM xs).1.length ≤ xs.length := by
  unfold revM
  split
  · refine Nat.le_trans (finished_le _) (Nat.le_trans (joined_le _) ?_)
    simp
  · exact Nat.zero_le _

end Go.AM.B
end

section
/-
Loops over band.each.
-/
namespace Go.AM.B
open Go Go.Proofs

def spansL : Int → List Run → List (Int × List Int)
  | _, [] => []
  | a, r :: rs => (a, [r.len, r.thick, r.shade, r.flaw]) :: spansL (IntKind.i64.wrap (a + r.len)) rs

theorem spansOf_runs : ∀ (rs : List Run) (a : Int), spansOf a (rs.map encRun) = some (spansL a rs)
  | [], _ => rfl
  | r :: rs, a => by
    rw [List.map_cons, encRun]
    simp only [spansOf, intsOf, spansOf_runs rs, spansL]

theorem eseq_each (t u : Bool) (rs : List Run) (hn : rs.length ≤ 1000000000) : E.seq 110 [.fp t [.sl u (rs.map encRun)] 0] = some (2, (spansL 0 rs).map yieldV) := by
  have h : E.seq 110 [.fp t [.sl u (rs.map encRun)] 0] = eachSeq 110 110 [.fp t [.sl u (rs.map encRun)] 0] := rfl
  rw [h]
  unfold eachSeq
  simp only [if_true, List.length_map, if_pos hn, spansOf_runs]

theorem tidy_slots (l l' : List V) (o : List (List V)) (b : List (Nat × Ob)) : tidy { slots := l, outer := o, objs := b } = tidy { slots := l', outer := o, objs := b } := rfl

theorem rounds_runs {σ : Type} {K : Option (Ex × St) → Prop} {run : Code → St → Option (Ex × St)} {ps : List Nat} {assign body : Code} {s0 l0 : List V} {out : List (List V)} {objs : List (Nat × Ob)} (rs : List Run)
    (os : List Run → σ → List (Nat × Ob)) (I : List Run → σ → Prop) (c0 : σ) (h0 : tidy { slots := l0, outer := s0 :: out, objs := objs } = { slots := [], outer := s0 :: out, objs := os [] c0 }) (hI : I [] c0)
    (hend : ∀ c, I rs c → K (some (.normal, { slots := s0, outer := out, objs := os rs c })))
    (hstep : ∀ pre r post c, rs = pre ++ r :: post → I pre c → afterA (run assign { slots := setAll s0 ps [.int .i64 (ln pre), encRun r], outer := s0 :: out, objs := os pre c }) (fun s => afterR (run body s)
      (fun s' => ∃ c', tidy s' = { slots := [], outer := s0 :: out, objs := os (pre ++ [r]) c' } ∧ I (pre ++ [r]) c') K)) :
    ∀ x, popped (roundsIn run ps assign body ((spansL 0 rs).map yieldV) { slots := l0, outer := s0 :: out, objs := objs }) = x → K x := by
  rintro x rfl
  have key : ∀ (post pre : List Run) (c : σ) (st : St), rs = pre ++ post → tidy st = { slots := [], outer := s0 :: out, objs := os pre c } → I pre c → K (popped (roundsIn run ps assign body ((spansL (ln pre) post).map yieldV) st)) := by
    intro post
    induction post with
    | nil =>
      intro pre c st hp ht hi
      obtain rfl : rs = pre := by simpa using hp
      simp only [spansL, List.map_nil, roundsIn, ht]
      exact hend c hi
    | cons r post ih =>
      intro pre c st hp ht hi
      have hs := hstep pre r post c hp hi
      simp only [spansL, List.map_cons, roundsIn, ht, List.headD_cons]
      rw [show yieldV (ln pre, [r.len, r.thick, r.shade, r.flaw]) = [.int .i64 (ln pre), encRun r] from rfl]
      cases ha : run assign { slots := setAll s0 ps [.int .i64 (ln pre), encRun r], outer := s0 :: out, objs := os pre c } with
      | none => rw [ha] at hs; exact hs.elim
      | some p =>
        obtain ⟨e, s⟩ := p
        rw [ha] at hs
        cases e with
        | normal =>
          dsimp only
          rw [afterA_normal] at hs
          cases hb : run body s with
          | none => rw [hb] at hs; exact hs.elim
          | some p =>
            obtain ⟨e, s'⟩ := p
            rw [hb] at hs
            cases e with
            | normal =>
              obtain ⟨c', h1, h3⟩ := hs
              dsimp only
              have hln : ln (pre ++ [r]) = IntKind.i64.wrap (ln pre + r.len) := by simp [ln]
              rw [← hln]
              exact ih (pre ++ [r]) c' s' (by simpa using hp) h1 h3
            | exit i => exact hs
            | ret => exact hs
        | exit i => exact hs.elim
        | ret => exact hs.elim
  exact key rs [] c0 _ rfl h0 hI

theorem c83 (rs : List Run) : (orcω E X0).call 83 [.sl false (rs.map encRun)] = some (.clo 110 [] [.fp false [.sl false (rs.map encRun)] 0]) := by
  refine call_of rfl fn83 rfl ?_
  simp (maxSteps := 1000000) (implicitDefEqProofs := false) only [Try.ntmps83, Try.results83, efc83, ss, List.replicate, evOp, evPlain, evVal, evMem, St.eval, St.put, St.get, constV, List.set, lenV, sliceOf, arrayOf, fieldsOf, normOf, norm, firstRegion, look, maskFrom, evBin, evIndexS, evLoad, evVar, evStore, evFieldAddr, nameOf, St.alloc, St.drop, killL, kill, killAll, killObs, killOb, upd, cells?, part, retag, retagL, putIn, refFree, refFreeL, isNew, isNewL, Ty.isAgg, splice, idsL, ids, idsLL, reach, depth, St.dropL, resultsV, resultV, ↓reduceIte, Nat.reduceBEq, Nat.reduceAdd, Nat.reduceSub, Nat.reduceMul, Nat.reduceEqDiff, Nat.reduceLeDiff, Nat.reduceLT, effOf, effMem, effStore, effCall, effVar, effLit, effMake, effApp, Eff.ap, lend, evLit, evMake, evNil, freeze, onto, dropO, elemsV, sized, evCmp, eqT, eqG, minV, evUn, evField, evExtract, evIndexA, evIndexV, evSlice, optInt, fillV, placeOf, thawed, del, isNilSlice, plain, plainL, cellsJ, junkOk, evLook, evMap, evEnter, effEnter, findV, mapOf, keyOk, evFrame, unframe, closed, fixed, sameEs, pickObs, putObs, wit, sameWit, Option.isSome_some, evNilCheck, St.with, setSlots, setObs, wantedD, seqOf, noRange, setAll, Array.size, te, einl, inls, efr]

/-- Lengths that add up to no more than fits. -/
def Okay (rs : List Run) : Prop := (∀ r ∈ rs, 1 ≤ r.len) ∧ total rs ≤ 40000000

theorem okay_app {pre post : List Run} (h : Okay (pre ++ post)) : Okay pre ∧ Okay post := by
  obtain ⟨h1, h2⟩ := h
  rw [total_app] at h2
  have a1 : ∀ r ∈ pre, 1 ≤ r.len := fun r hr => h1 r (List.mem_append_left _ hr)
  have a2 : ∀ r ∈ post, 1 ≤ r.len := fun r hr => h1 r (List.mem_append_right _ hr)
  have nn : ∀ l : List Run, (∀ r ∈ l, 1 ≤ r.len) → 0 ≤ total l := by
    intro l
    induction l with
    | nil => intro _; exact Int.le_refl _
    | cons x l ih =>
      intro h
      have := ih fun r hr => h r (List.mem_cons_of_mem _ hr)
      have := h x List.mem_cons_self
      rw [total_cons]; omega
  have := nn pre a1
  have := nn post a2
  exact ⟨⟨a1, by omega⟩, ⟨a2, by omega⟩⟩

theorem okay_nonneg {rs : List Run} (h : Okay rs) : 0 ≤ total rs := by
  obtain ⟨h1, _⟩ := h
  induction rs with
  | nil => exact Int.le_refl _
  | cons x l ih =>
    have := ih fun r hr => h1 r (List.mem_cons_of_mem _ hr)
    have := h1 x List.mem_cons_self
    rw [total_cons]; omega

theorem okay_lens {rs : List Run} (h : Okay rs) : Lens 40000000 rs := by
  intro r hr
  obtain ⟨a, b, rfl⟩ := List.append_of_mem hr
  have h1 := (okay_app h).1
  have h2 := (okay_app (pre := [r]) (post := b) (okay_app h).2).2
  have h3 := h.2
  rw [total_app, total_cons] at h3
  have := okay_nonneg h1
  have := okay_nonneg h2
  exact ⟨h.1 r hr, by omega⟩

theorem ln_total : ∀ {rs : List Run}, Okay rs → ln rs = total rs := by
  intro rs
  induction rs using snoc_ind with
  | h0 => intro _; rfl
  | h1 l x ih =>
    intro h
    have h1 := (okay_app h).1
    have := okay_nonneg h1
    have h3 := h.2
    rw [total_app, total_cons, total_nil] at h3
    have h4 := h.1 x (by simp)
    have : ln (l ++ [x]) = IntKind.i64.wrap (ln l + x.len) := by simp [ln]
    rw [this, ih h1, total_app, total_cons, total_nil, wrap_in (by omega)]
    omega

theorem expand_len {rs : List Run} (h : Okay rs) : ((expand rs).length : Int) = total rs := expand_length (okay_lens h)

theorem valid_okay {rs : List Run} (h : validate rs = 0) : Okay rs ∧ rs.length ≤ 40 ∧ total rs ≤ 1000000 := by
  have h2 := valid_all h
  have h3 : rs.length ≤ 40 := by
    unfold validate at h
    split at h
    · omega
    · omega
  have h4 : ∀ r ∈ rs, 1 ≤ r.len ∧ r.len ≤ 1000000 := fun r hr => by
    have := List.all_eq_true.1 h2 r hr
    simp [wellB, inB] at this
    omega
  have h5 : total rs ≤ 1000000 * rs.length := by
    clear h h2 h3
    induction rs with
    | nil => exact Int.le_refl _
    | cons x l ih =>
      have := ih fun r hr => h4 r (List.mem_cons_of_mem _ hr)
      have := h4 x List.mem_cons_self
      rw [total_cons, List.length_cons]; omega
  have ho : Okay rs := ⟨fun r hr => (h4 r hr).1, by omega⟩
  refine ⟨ho, h3, ?_⟩
  unfold validate at h
  rw [if_neg (by omega), if_pos h2] at h
  by_cases h6 : 1000000 < ln rs
  · rw [if_pos h6] at h; cases h
  · rw [ln_total ho] at h6; omega
end Go.AM.B
end

section
namespace Go.AM.B
open Go Go.Proofs

def encMk (m : Mk) : V := .agg [.int .i64 m.thick, .int .i64 m.shade, .int .i64 m.flaw]
def mk0 : Mk := ⟨0, 0, 0⟩

theorem expand_get {pre : List Run} {r : Run} {post : List Run} {k : Int} (h : Okay (pre ++ r :: post)) (h1 : total pre ≤ k) (h2 : k < total pre + r.len) : (expand (pre ++ r :: post))[k.toNat]? = some r.mk' := by
  obtain ⟨ha, hb⟩ := okay_app h
  have := expand_len ha
  rw [expand_app, expand_cons, List.getElem?_append_right (by omega), List.getElem?_append_left (by simp; omega)]
  rw [List.getElem?_replicate, if_pos (by omega)]

theorem expand_none {rs : List Run} {k : Int} (h : Okay rs) (h1 : total rs ≤ k) : (expand rs)[k.toNat]? = none := by
  have := expand_len h
  have := okay_nonneg h
  exact List.getElem?_eq_none (by omega)

def atM (rs : List Run) (p : Int) : Mk × Int := if validate rs = 0 then (if 0 ≤ p then (match (expand rs)[p.toNat]? with | some m => (m, 0) | none => (mk0, 5)) else (mk0, 5)) else (mk0, validate rs)
def encAt (x : Mk × Int) : V := .tup [encMk x.1, .int .i64 x.2]

theorem c50 (rs : List Run) (p : Int) (hn : rs.length ≤ 100000) : (orcω E X0).call 50 [.sl false (rs.map encRun), .int .i64 p] = some (encAt (atM rs p)) := by
  refine call_of rfl fn50 rfl ?_
  have h1 := c81 false rs (by omega)
  have h2 := c83 rs
  have h3 := eseq_each false false rs (by omega)
  simp (maxSteps := 1000000) (implicitDefEqProofs := false) only [Try.ntmps50, Try.results50, efc50, h1, ss, List.replicate, evOp, evPlain, evVal, evMem, St.eval, St.put, St.get, constV, List.set, lenV, sliceOf, arrayOf, fieldsOf, normOf, norm, firstRegion, look, maskFrom, evBin, evIndexS, evLoad, evVar, evStore, evFieldAddr, nameOf, St.alloc, St.drop, killL, kill, killAll, killObs, killOb, upd, cells?, part, retag, retagL, putIn, refFree, refFreeL, isNew, isNewL, Ty.isAgg, splice, idsL, ids, idsLL, reach, depth, St.dropL, resultsV, resultV, ↓reduceIte, Nat.reduceBEq, Nat.reduceAdd, Nat.reduceSub, Nat.reduceMul, Nat.reduceEqDiff, Nat.reduceLeDiff, Nat.reduceLT, effOf, effMem, effStore, effCall, effVar, effLit, effMake, effApp, Eff.ap, lend, evLit, evMake, evNil, freeze, onto, dropO, elemsV, sized, evCmp, eqT, eqG, minV, evUn, evField, evExtract, evIndexA, evIndexV, evSlice, optInt, fillV, placeOf, thawed, del, isNilSlice, plain, plainL, cellsJ, junkOk, evLook, evMap, evEnter, effEnter, findV, mapOf, keyOk, evFrame, unframe, closed, fixed, sameEs, pickObs, putObs, wit, sameWit, Option.isSome_some, evNilCheck, St.with, setSlots, setObs, wantedD, seqOf, noRange, setAll, Array.size, te, einl, inls, efr]
  (repeat' (rewrite [ask_to]; generalize hb : ask2 _ = w; rcases ask_cases hb with ⟨hc, rfl⟩ | ⟨hc, rfl⟩ <;> clear hb <;> (try simp (maxSteps := 1000000) (implicitDefEqProofs := false) only [Try.ntmps50, Try.results50, efc50, h1, h2, h3, ss, List.replicate, evOp, evPlain, evVal, evMem, St.eval, St.put, St.get, constV, List.set, lenV, sliceOf, arrayOf, fieldsOf, normOf, norm, firstRegion, look, maskFrom, evBin, evIndexS, evLoad, evVar, evStore, evFieldAddr, nameOf, St.alloc, St.drop, killL, kill, killAll, killObs, killOb, upd, cells?, part, retag, retagL, putIn, refFree, refFreeL, isNew, isNewL, Ty.isAgg, splice, idsL, ids, idsLL, reach, depth, St.dropL, resultsV, resultV, ↓reduceIte, Nat.reduceBEq, Nat.reduceAdd, Nat.reduceSub, Nat.reduceMul, Nat.reduceEqDiff, Nat.reduceLeDiff, Nat.reduceLT, effOf, effMem, effStore, effCall, effVar, effLit, effMake, effApp, Eff.ap, lend, evLit, evMake, evNil, freeze, onto, dropO, elemsV, sized, evCmp, eqT, eqG, minV, evUn, evField, evExtract, evIndexA, evIndexV, evSlice, optInt, fillV, placeOf, thawed, del, isNilSlice, plain, plainL, cellsJ, junkOk, evLook, evMap, evEnter, effEnter, findV, mapOf, keyOk, evFrame, unframe, closed, fixed, sameEs, pickObs, putObs, wit, sameWit, Option.isSome_some, evNilCheck, St.with, setSlots, setObs, wantedD, seqOf, noRange, setAll, Array.size, te, einl, inls, efr])))
  · simp_all [encAt, atM, encMk, mk0]
  have hv : validate rs = 0 := by simp_all
  have ho := (valid_okay hv).1
  generalize hr : popped (roundsIn _ _ _ _ _ _) = r; revert r
  refine rounds_runs rs (fun _ _ => [(3, { es := 1, flat := true, t := true, app := false, elems := [.int .i64 p] }), (4, { es := 3, flat := true, t := true, app := false, elems := [encMk mk0] }), (5, { es := 1, flat := true, t := true, app := false, elems := [.int .i64 0] })])
    (fun pre (_ : Unit) => p < 0 ∨ total pre ≤ p) () (by simp (maxSteps := 1000000) (implicitDefEqProofs := false) only [encMk, mk0, ss, List.replicate, evOp, evPlain, evVal, evMem, St.eval, St.put, St.get, constV, List.set, lenV, sliceOf, arrayOf, fieldsOf, normOf, norm, firstRegion, look, maskFrom, evBin, evIndexS, evLoad, evVar, evStore, evFieldAddr, nameOf, St.alloc, St.drop, killL, kill, killAll, killObs, killOb, upd, cells?, part, retag, retagL, putIn, refFree, refFreeL, isNew, isNewL, Ty.isAgg, splice, idsL, ids, idsLL, reach, depth, St.dropL, resultsV, resultV, ↓reduceIte, Nat.reduceBEq, Nat.reduceAdd, Nat.reduceSub, Nat.reduceMul, Nat.reduceEqDiff, Nat.reduceLeDiff, Nat.reduceLT, effOf, effMem, effStore, effCall, effVar, effLit, effMake, effApp, Eff.ap, lend, evLit, evMake, evNil, freeze, onto, dropO, elemsV, sized, evCmp, eqT, eqG, minV, evUn, evField, evExtract, evIndexA, evIndexV, evSlice, optInt, fillV, placeOf, thawed, del, isNilSlice, plain, plainL, cellsJ, junkOk, evLook, evMap, evEnter, effEnter, findV, mapOf, keyOk, evFrame, unframe, closed, fixed, sameEs, pickObs, putObs, wit, sameWit, Option.isSome_some, evNilCheck, St.with, setSlots, setObs, wantedD, seqOf, noRange, setAll, Array.size, te, einl, inls, efr]) (by simp [total]; omega) (fun _ hi => ?_) (fun pre r post _ hp hi => ?_)
  · simp (maxSteps := 1000000) (implicitDefEqProofs := false) only [Try.ntmps50, Try.results50, efc50, encMk, mk0, ss, List.replicate, evOp, evPlain, evVal, evMem, St.eval, St.put, St.get, constV, List.set, lenV, sliceOf, arrayOf, fieldsOf, normOf, norm, firstRegion, look, maskFrom, evBin, evIndexS, evLoad, evVar, evStore, evFieldAddr, nameOf, St.alloc, St.drop, killL, kill, killAll, killObs, killOb, upd, cells?, part, retag, retagL, putIn, refFree, refFreeL, isNew, isNewL, Ty.isAgg, splice, idsL, ids, idsLL, reach, depth, St.dropL, resultsV, resultV, ↓reduceIte, Nat.reduceBEq, Nat.reduceAdd, Nat.reduceSub, Nat.reduceMul, Nat.reduceEqDiff, Nat.reduceLeDiff, Nat.reduceLT, effOf, effMem, effStore, effCall, effVar, effLit, effMake, effApp, Eff.ap, lend, evLit, evMake, evNil, freeze, onto, dropO, elemsV, sized, evCmp, eqT, eqG, minV, evUn, evField, evExtract, evIndexA, evIndexV, evSlice, optInt, fillV, placeOf, thawed, del, isNilSlice, plain, plainL, cellsJ, junkOk, evLook, evMap, evEnter, effEnter, findV, mapOf, keyOk, evFrame, unframe, closed, fixed, sameEs, pickObs, putObs, wit, sameWit, Option.isSome_some, evNilCheck, St.with, setSlots, setObs, wantedD, seqOf, noRange, setAll, Array.size, te, einl, inls, efr]
    rcases hi with hi | hi
    · simp [encAt, atM, hv, encMk, mk0, show ¬ 0 ≤ p by omega]
    · simp [encAt, atM, hv, encMk, mk0, expand_none ho hi]
  · have h4 := okay_app (hp ▸ ho)
    have h5 := ln_total h4.1
    have h6 := okay_nonneg h4.1
    have h7 := okay_nonneg h4.2
    have h8 := okay_lens ho r (by rw [hp]; simp)
    have h9 := ho.2
    rw [hp, total_app] at h9
    have e3 : total (pre ++ [r]) = total pre + r.len := by rw [total_app, total_cons, total_nil]; omega
    simp (maxSteps := 1000000) (implicitDefEqProofs := false) (disch := omega) only [h5, encRun, wrap_in, ss, List.replicate, evOp, evPlain, evVal, evMem, St.eval, St.put, St.get, constV, List.set, lenV, sliceOf, arrayOf, fieldsOf, normOf, norm, firstRegion, look, maskFrom, evBin, evIndexS, evLoad, evVar, evStore, evFieldAddr, nameOf, St.alloc, St.drop, killL, kill, killAll, killObs, killOb, upd, cells?, part, retag, retagL, putIn, refFree, refFreeL, isNew, isNewL, Ty.isAgg, splice, idsL, ids, idsLL, reach, depth, St.dropL, resultsV, resultV, ↓reduceIte, Nat.reduceBEq, Nat.reduceAdd, Nat.reduceSub, Nat.reduceMul, Nat.reduceEqDiff, Nat.reduceLeDiff, Nat.reduceLT, effOf, effMem, effStore, effCall, effVar, effLit, effMake, effApp, Eff.ap, lend, evLit, evMake, evNil, freeze, onto, dropO, elemsV, sized, evCmp, eqT, eqG, minV, evUn, evField, evExtract, evIndexA, evIndexV, evSlice, optInt, fillV, placeOf, thawed, del, isNilSlice, plain, plainL, cellsJ, junkOk, evLook, evMap, evEnter, effEnter, findV, mapOf, keyOk, evFrame, unframe, closed, fixed, sameEs, pickObs, putObs, wit, sameWit, Option.isSome_some, evNilCheck, St.with, setSlots, setObs, wantedD, seqOf, noRange, setAll, Array.size, te, einl, inls, efr]
    (repeat' (rewrite [ask_to]; generalize hb : ask2 _ = w; rcases ask_cases hb with ⟨hc, rfl⟩ | ⟨hc, rfl⟩ <;> clear hb <;> (try simp (maxSteps := 1000000) (implicitDefEqProofs := false) (disch := omega) only [h5, encRun, encMk, Try.ntmps50, Try.results50, efc50, wrap_in, ss, List.replicate, evOp, evPlain, evVal, evMem, St.eval, St.put, St.get, constV, List.set, lenV, sliceOf, arrayOf, fieldsOf, normOf, norm, firstRegion, look, maskFrom, evBin, evIndexS, evLoad, evVar, evStore, evFieldAddr, nameOf, St.alloc, St.drop, killL, kill, killAll, killObs, killOb, upd, cells?, part, retag, retagL, putIn, refFree, refFreeL, isNew, isNewL, Ty.isAgg, splice, idsL, ids, idsLL, reach, depth, St.dropL, resultsV, resultV, ↓reduceIte, Nat.reduceBEq, Nat.reduceAdd, Nat.reduceSub, Nat.reduceMul, Nat.reduceEqDiff, Nat.reduceLeDiff, Nat.reduceLT, effOf, effMem, effStore, effCall, effVar, effLit, effMake, effApp, Eff.ap, lend, evLit, evMake, evNil, freeze, onto, dropO, elemsV, sized, evCmp, eqT, eqG, minV, evUn, evField, evExtract, evIndexA, evIndexV, evSlice, optInt, fillV, placeOf, thawed, del, isNilSlice, plain, plainL, cellsJ, junkOk, evLook, evMap, evEnter, effEnter, findV, mapOf, keyOk, evFrame, unframe, closed, fixed, sameEs, pickObs, putObs, wit, sameWit, Option.isSome_some, evNilCheck, St.with, setSlots, setObs, wantedD, seqOf, noRange, setAll, Array.size, te, einl, inls, efr])))
    all_goals simp only [decide_eq_true_eq, decide_eq_false_iff_not] at *
    · have h10 : (expand rs)[p.toNat]? = some r.mk' := by
        have := expand_get (k := p) (hp ▸ ho) (by omega) (by omega)
        rwa [← hp] at this
      simp [encAt, atM, hv, encMk, h10, show 0 ≤ p by omega, Run.mk']
    all_goals (simp [encMk]; omega)

end Go.AM.B
end
