/- A part of the proof: the texts ABandE, ABandF, ABandG, ABandT, ABandI, ABandH, ABandJ, ABandK, ABandL, ABandM, ABandN, one after another. No condition. -/
import Derived.Test.YtdipdaajicceoaaAP
set_option linter.unusedSimpArgs false

section
namespace Go.AM.A
open Go Go.Proofs

theorem c21 (t : Bool) (rs : List Run) (hn : rs.length ≤ 1000000000) : (orcω E X0).call 21 [.sl t (rs.map encRun)] = some (encLen (lengthM rs)) := by
  refine call_of rfl fn21 rfl ?_
  have hc := c23 false rs hn
  have hf := c61 false rs hn
  by_cases h : validate rs = 0
  · have h' : (validate rs != 0) = false := by simp [h]
    have hr : lengthM rs = (ln rs, 0) := by unfold lengthM; rw [if_pos h]
    rw [hr]
    simp only [Try.ntmps21, Try.results21, efc21, hc, h', hf, encLen, Option.getD_some, List.replicate, List.cons_append, List.nil_append, den_seq, den_region, den_block, den_cond, den_skip, den_ret, den_exit, evOps, evOp, evPlain, evVal, evMem, wantedV, St.eval, St.put, St.get, constV, List.set, List.getD_cons_zero, List.getD_cons_succ, Bool.false_eq_true, if_false, List.contains_nil, Bool.false_and, normally_some, andThen_normal, andThen_exit, andThen_ret, atBlock_normal, atBlock_exit, atBlock_ret, lenV, sliceOf, arrayOf, fieldsOf, onBool_true, onBool_false, after_normal, after_exit, after_ret, normOf, norm, firstRegion, look, maskFrom, evBin, evIndexS, evLoad, evVar, evStore, evFieldAddr, nameOf, St.alloc, St.drop, killL, kill, killAll, killObs, killOb, upd, cells?, part, retag, retagL, putIn, refFree, refFreeL, isNew, isNewL, Ty.isAgg, splice, idsL, ids, idsLL, reach, depth, St.dropL, outOfCall_some, atEnd_normal, atEnd_ret, resultsV, resultV, allM_nil, allM_cons, resolve_int, resolve_bool, resolve_lit, resolve_sl, resolve_fp, resolve_emp, resolve_agg, resolve_tup, resolve_clo, resolve_own, Option.map_some, Option.map_none, List.length_cons, List.length_nil, List.length_map, ↓reduceIte, List.contains_cons, Bool.or_false, Bool.false_or, Bool.or_true, Bool.true_or, Nat.reduceBEq, beq_self_eq_true, List.map_cons, List.map_nil, List.filter_cons, List.filter_nil, List.flatMap_cons, List.flatMap_nil, Bool.not_true, Bool.not_false, and_self, and_true, true_and, List.getElem?_cons_zero, List.getElem?_cons_succ, List.getElem?_nil, List.drop_succ_cons, List.drop_zero, List.take_succ_cons, List.take_zero, List.drop_nil, List.take_nil, List.append_nil, Nat.reduceAdd, Nat.reduceSub, Nat.reduceMul, Nat.reduceEqDiff, Nat.reduceLeDiff, Nat.le_refl, Option.getD_none, Bool.and_true, Bool.true_and, Bool.and_false, Bool.and_self, Nat.lt_irrefl, Nat.reduceLT, Nat.zero_add, evRegion_still, evE, effOf, effMem, effStore, effCall, effVar, effLit, effMake, effApp, Eff.ap, evCall, lend, evAppend, evLit, evMake, evNil, freeze, onto, dropO, elemsV, sized, evCmp, eqT, eqG, minV, evUn, evField, evExtract, evIndexA, evIndexV, evSlice, optInt, fillV, placeOf, thawed, del, List.contains_append, Option.bind_none, Option.bind_some, Bool.and_eq_true, decide_true, decide_false, Bool.not_eq_true', List.take_length, List.range_succ, List.range_zero, Option.some.injEq, ne_eq, not_false_eq_true, not_true_eq_false, List.all_cons, List.all_nil, isNilSlice, List.getElem?_toArray, beqT, beqF, Bool.cond_true, Bool.cond_false, or_self, true_or, or_true, or_false, false_or, plain, plainL, ask_true, ask_false, pickV_true, pickV_false, resolve_ptr, cellsJ, junkOk, te, einl, inls]
  · have h' : (validate rs != 0) = true := by simp [h]
    have hr : lengthM rs = (0, validate rs) := by unfold lengthM; rw [if_neg h]
    rw [hr]
    simp only [Try.ntmps21, Try.results21, efc21, hc, h', encLen, Option.getD_some, List.replicate, List.cons_append, List.nil_append, den_seq, den_region, den_block, den_cond, den_skip, den_ret, den_exit, evOps, evOp, evPlain, evVal, evMem, wantedV, St.eval, St.put, St.get, constV, List.set, List.getD_cons_zero, List.getD_cons_succ, Bool.false_eq_true, if_false, List.contains_nil, Bool.false_and, normally_some, andThen_normal, andThen_exit, andThen_ret, atBlock_normal, atBlock_exit, atBlock_ret, lenV, sliceOf, arrayOf, fieldsOf, onBool_true, onBool_false, after_normal, after_exit, after_ret, normOf, norm, firstRegion, look, maskFrom, evBin, evIndexS, evLoad, evVar, evStore, evFieldAddr, nameOf, St.alloc, St.drop, killL, kill, killAll, killObs, killOb, upd, cells?, part, retag, retagL, putIn, refFree, refFreeL, isNew, isNewL, Ty.isAgg, splice, idsL, ids, idsLL, reach, depth, St.dropL, outOfCall_some, atEnd_normal, atEnd_ret, resultsV, resultV, allM_nil, allM_cons, resolve_int, resolve_bool, resolve_lit, resolve_sl, resolve_fp, resolve_emp, resolve_agg, resolve_tup, resolve_clo, resolve_own, Option.map_some, Option.map_none, List.length_cons, List.length_nil, List.length_map, ↓reduceIte, List.contains_cons, Bool.or_false, Bool.false_or, Bool.or_true, Bool.true_or, Nat.reduceBEq, beq_self_eq_true, List.map_cons, List.map_nil, List.filter_cons, List.filter_nil, List.flatMap_cons, List.flatMap_nil, Bool.not_true, Bool.not_false, and_self, and_true, true_and, List.getElem?_cons_zero, List.getElem?_cons_succ, List.getElem?_nil, List.drop_succ_cons, List.drop_zero, List.take_succ_cons, List.take_zero, List.drop_nil, List.take_nil, List.append_nil, Nat.reduceAdd, Nat.reduceSub, Nat.reduceMul, Nat.reduceEqDiff, Nat.reduceLeDiff, Nat.le_refl, Option.getD_none, Bool.and_true, Bool.true_and, Bool.and_false, Bool.and_self, Nat.lt_irrefl, Nat.reduceLT, Nat.zero_add, evRegion_still, evE, effOf, effMem, effStore, effCall, effVar, effLit, effMake, effApp, Eff.ap, evCall, lend, evAppend, evLit, evMake, evNil, freeze, onto, dropO, elemsV, sized, evCmp, eqT, eqG, minV, evUn, evField, evExtract, evIndexA, evIndexV, evSlice, optInt, fillV, placeOf, thawed, del, List.contains_append, Option.bind_none, Option.bind_some, Bool.and_eq_true, decide_true, decide_false, Bool.not_eq_true', List.take_length, List.range_succ, List.range_zero, Option.some.injEq, ne_eq, not_false_eq_true, not_true_eq_false, List.all_cons, List.all_nil, isNilSlice, List.getElem?_toArray, beqT, beqF, Bool.cond_true, Bool.cond_false, or_self, true_or, or_true, or_false, false_or, plain, plainL, ask_true, ask_false, pickV_true, pickV_false, resolve_ptr, cellsJ, junkOk, te, einl, inls]

theorem c22 (t : Bool) (rs : List Run) (hn : rs.length ≤ 1000000000) : (orcω E X0).call 22 [.sl t (rs.map encRun)] = some (encLen (lengthM rs)) := by
  refine call_of rfl fn22 rfl ?_
  have hc := c24 false rs hn
  have hf := c62 false rs hn
  by_cases h : validate rs = 0
  · have h' : (validate rs != 0) = false := by simp [h]
    have hr : lengthM rs = (ln rs, 0) := by unfold lengthM; rw [if_pos h]
    rw [hr]
    simp only [Try.ntmps22, Try.results22, efc22, hc, h', hf, encLen, Option.getD_some, List.replicate, List.cons_append, List.nil_append, den_seq, den_region, den_block, den_cond, den_skip, den_ret, den_exit, evOps, evOp, evPlain, evVal, evMem, wantedV, St.eval, St.put, St.get, constV, List.set, List.getD_cons_zero, List.getD_cons_succ, Bool.false_eq_true, if_false, List.contains_nil, Bool.false_and, normally_some, andThen_normal, andThen_exit, andThen_ret, atBlock_normal, atBlock_exit, atBlock_ret, lenV, sliceOf, arrayOf, fieldsOf, onBool_true, onBool_false, after_normal, after_exit, after_ret, normOf, norm, firstRegion, look, maskFrom, evBin, evIndexS, evLoad, evVar, evStore, evFieldAddr, nameOf, St.alloc, St.drop, killL, kill, killAll, killObs, killOb, upd, cells?, part, retag, retagL, putIn, refFree, refFreeL, isNew, isNewL, Ty.isAgg, splice, idsL, ids, idsLL, reach, depth, St.dropL, outOfCall_some, atEnd_normal, atEnd_ret, resultsV, resultV, allM_nil, allM_cons, resolve_int, resolve_bool, resolve_lit, resolve_sl, resolve_fp, resolve_emp, resolve_agg, resolve_tup, resolve_clo, resolve_own, Option.map_some, Option.map_none, List.length_cons, List.length_nil, List.length_map, ↓reduceIte, List.contains_cons, Bool.or_false, Bool.false_or, Bool.or_true, Bool.true_or, Nat.reduceBEq, beq_self_eq_true, List.map_cons, List.map_nil, List.filter_cons, List.filter_nil, List.flatMap_cons, List.flatMap_nil, Bool.not_true, Bool.not_false, and_self, and_true, true_and, List.getElem?_cons_zero, List.getElem?_cons_succ, List.getElem?_nil, List.drop_succ_cons, List.drop_zero, List.take_succ_cons, List.take_zero, List.drop_nil, List.take_nil, List.append_nil, Nat.reduceAdd, Nat.reduceSub, Nat.reduceMul, Nat.reduceEqDiff, Nat.reduceLeDiff, Nat.le_refl, Option.getD_none, Bool.and_true, Bool.true_and, Bool.and_false, Bool.and_self, Nat.lt_irrefl, Nat.reduceLT, Nat.zero_add, evRegion_still, evE, effOf, effMem, effStore, effCall, effVar, effLit, effMake, effApp, Eff.ap, evCall, lend, evAppend, evLit, evMake, evNil, freeze, onto, dropO, elemsV, sized, evCmp, eqT, eqG, minV, evUn, evField, evExtract, evIndexA, evIndexV, evSlice, optInt, fillV, placeOf, thawed, del, List.contains_append, Option.bind_none, Option.bind_some, Bool.and_eq_true, decide_true, decide_false, Bool.not_eq_true', List.take_length, List.range_succ, List.range_zero, Option.some.injEq, ne_eq, not_false_eq_true, not_true_eq_false, List.all_cons, List.all_nil, isNilSlice, List.getElem?_toArray, beqT, beqF, Bool.cond_true, Bool.cond_false, or_self, true_or, or_true, or_false, false_or, plain, plainL, ask_true, ask_false, pickV_true, pickV_false, resolve_ptr, cellsJ, junkOk, te, einl, inls]
  · have h' : (validate rs != 0) = true := by simp [h]
    have hr : lengthM rs = (0, validate rs) := by unfold lengthM; rw [if_neg h]
    rw [hr]
    simp only [Try.ntmps22, Try.results22, efc22, hc, h', encLen, Option.getD_some, List.replicate, List.cons_append, List.nil_append, den_seq, den_region, den_block, den_cond, den_skip, den_ret, den_exit, evOps, evOp, evPlain, evVal, evMem, wantedV, St.eval, St.put, St.get, constV, List.set, List.getD_cons_zero, List.getD_cons_succ, Bool.false_eq_true, if_false, List.contains_nil, Bool.false_and, normally_some, andThen_normal, andThen_exit, andThen_ret, atBlock_normal, atBlock_exit, atBlock_ret, lenV, sliceOf, arrayOf, fieldsOf, onBool_true, onBool_false, after_normal, after_exit, after_ret, normOf, norm, firstRegion, look, maskFrom, evBin, evIndexS, evLoad, evVar, evStore, evFieldAddr, nameOf, St.alloc, St.drop, killL, kill, killAll, killObs, killOb, upd, cells?, part, retag, retagL, putIn, refFree, refFreeL, isNew, isNewL, Ty.isAgg, splice, idsL, ids, idsLL, reach, depth, St.dropL, outOfCall_some, atEnd_normal, atEnd_ret, resultsV, resultV, allM_nil, allM_cons, resolve_int, resolve_bool, resolve_lit, resolve_sl, resolve_fp, resolve_emp, resolve_agg, resolve_tup, resolve_clo, resolve_own, Option.map_some, Option.map_none, List.length_cons, List.length_nil, List.length_map, ↓reduceIte, List.contains_cons, Bool.or_false, Bool.false_or, Bool.or_true, Bool.true_or, Nat.reduceBEq, beq_self_eq_true, List.map_cons, List.map_nil, List.filter_cons, List.filter_nil, List.flatMap_cons, List.flatMap_nil, Bool.not_true, Bool.not_false, and_self, and_true, true_and, List.getElem?_cons_zero, List.getElem?_cons_succ, List.getElem?_nil, List.drop_succ_cons, List.drop_zero, List.take_succ_cons, List.take_zero, List.drop_nil, List.take_nil, List.append_nil, Nat.reduceAdd, Nat.reduceSub, Nat.reduceMul, Nat.reduceEqDiff, Nat.reduceLeDiff, Nat.le_refl, Option.getD_none, Bool.and_true, Bool.true_and, Bool.and_false, Bool.and_self, Nat.lt_irrefl, Nat.reduceLT, Nat.zero_add, evRegion_still, evE, effOf, effMem, effStore, effCall, effVar, effLit, effMake, effApp, Eff.ap, evCall, lend, evAppend, evLit, evMake, evNil, freeze, onto, dropO, elemsV, sized, evCmp, eqT, eqG, minV, evUn, evField, evExtract, evIndexA, evIndexV, evSlice, optInt, fillV, placeOf, thawed, del, List.contains_append, Option.bind_none, Option.bind_some, Bool.and_eq_true, decide_true, decide_false, Bool.not_eq_true', List.take_length, List.range_succ, List.range_zero, Option.some.injEq, ne_eq, not_false_eq_true, not_true_eq_false, List.all_cons, List.all_nil, isNilSlice, List.getElem?_toArray, beqT, beqF, Bool.cond_true, Bool.cond_false, or_self, true_or, or_true, or_false, false_or, plain, plainL, ask_true, ask_false, pickV_true, pickV_false, resolve_ptr, cellsJ, junkOk, te, einl, inls]

theorem c16 (t : Bool) (rs : List Run) : (orcω E X0).call 16 [.sl t (rs.map encRun)] = some (.bool (decide ((100 : Int) < rs.length))) := by
  refine call_of rfl fn16 rfl ?_
  simp only [Try.ntmps16, Try.results16, efc16, Option.getD_some, List.replicate, List.cons_append, List.nil_append, den_seq, den_region, den_block, den_cond, den_skip, den_ret, den_exit, evOps, evOp, evPlain, evVal, evMem, wantedV, St.eval, St.put, St.get, constV, List.set, List.getD_cons_zero, List.getD_cons_succ, Bool.false_eq_true, if_false, List.contains_nil, Bool.false_and, normally_some, andThen_normal, andThen_exit, andThen_ret, atBlock_normal, atBlock_exit, atBlock_ret, lenV, sliceOf, arrayOf, fieldsOf, onBool_true, onBool_false, after_normal, after_exit, after_ret, normOf, norm, firstRegion, look, maskFrom, evBin, evIndexS, evLoad, evVar, evStore, evFieldAddr, nameOf, St.alloc, St.drop, killL, kill, killAll, killObs, killOb, upd, cells?, part, retag, retagL, putIn, refFree, refFreeL, isNew, isNewL, Ty.isAgg, splice, idsL, ids, idsLL, reach, depth, St.dropL, outOfCall_some, atEnd_normal, atEnd_ret, resultsV, resultV, allM_nil, allM_cons, resolve_int, resolve_bool, resolve_lit, resolve_sl, resolve_fp, resolve_emp, resolve_agg, resolve_tup, resolve_clo, resolve_own, Option.map_some, Option.map_none, List.length_cons, List.length_nil, List.length_map, ↓reduceIte, List.contains_cons, Bool.or_false, Bool.false_or, Bool.or_true, Bool.true_or, Nat.reduceBEq, beq_self_eq_true, List.map_cons, List.map_nil, List.filter_cons, List.filter_nil, List.flatMap_cons, List.flatMap_nil, Bool.not_true, Bool.not_false, and_self, and_true, true_and, List.getElem?_cons_zero, List.getElem?_cons_succ, List.getElem?_nil, List.drop_succ_cons, List.drop_zero, List.take_succ_cons, List.take_zero, List.drop_nil, List.take_nil, List.append_nil, Nat.reduceAdd, Nat.reduceSub, Nat.reduceMul, Nat.reduceEqDiff, Nat.reduceLeDiff, Nat.le_refl, Option.getD_none, Bool.and_true, Bool.true_and, Bool.and_false, Bool.and_self, Nat.lt_irrefl, Nat.reduceLT, Nat.zero_add, evRegion_still, evE, effOf, effMem, effStore, effCall, effVar, effLit, effMake, effApp, Eff.ap, evCall, lend, evAppend, evLit, evMake, evNil, freeze, onto, dropO, elemsV, sized, evCmp, eqT, eqG, minV, evUn, evField, evExtract, evIndexA, evIndexV, evSlice, optInt, fillV, placeOf, thawed, del, List.contains_append, Option.bind_none, Option.bind_some, Bool.and_eq_true, decide_true, decide_false, Bool.not_eq_true', List.take_length, List.range_succ, List.range_zero, Option.some.injEq, ne_eq, not_false_eq_true, not_true_eq_false, List.all_cons, List.all_nil, isNilSlice, List.getElem?_toArray, beqT, beqF, Bool.cond_true, Bool.cond_false, or_self, true_or, or_true, or_false, false_or, plain, plainL, ask_true, ask_false, pickV_true, pickV_false, resolve_ptr, cellsJ, junkOk, te, einl, inls]

theorem refFree_runs (rs : List Run) : refFreeL (rs.map encRun) = true := by
  induction rs with
  | nil => rfl
  | cons r rs ih => simp only [List.map_cons, refFreeL, ih, encRun, refFree, Bool.and_self]
theorem isNew_runs (rs : List Run) : isNewL (rs.map encRun) = true := by
  induction rs with
  | nil => rfl
  | cons r rs ih => simp only [List.map_cons, isNewL, ih, encRun, isNew, Bool.and_self]
theorem plain_runs (rs : List Run) : plainL (rs.map encRun) = true := by
  induction rs with
  | nil => rfl
  | cons r rs ih => simp only [List.map_cons, plainL, ih, encRun, plain, Bool.and_self]
theorem sized_runs (rs : List Run) : sized 4 (rs.map encRun) = true := by
  induction rs with
  | nil => rfl
  | cons r rs ih => simp only [List.map_cons, sized, ih, encRun, cells?, List.length_cons, List.length_nil]; rfl

theorem c18 (t : Bool) (rs : List Run) (hn : rs.length ≤ 1000000000) : (orcω E X0).call 18 [.sl t (rs.map encRun)] = some (.sl t (rs.map encRun)) := by
  refine call_of rfl fn18 rfl ?_
  have hroom : roomy rs.length 32 = true := by simp [roomy]; omega
  have hbig : rs.length ≤ 4294967296 := by omega
  simp only [Try.ntmps18, Try.results18, efc18, fc18, hroom, hbig, sized_runs, take_map, Option.getD_some, List.replicate, List.cons_append, List.nil_append, den_seq, den_region, den_block, den_cond, den_skip, den_ret, den_exit, evOps, evOp, evPlain, evVal, evMem, wantedV, St.eval, St.put, St.get, constV, List.set, List.getD_cons_zero, List.getD_cons_succ, Bool.false_eq_true, if_false, List.contains_nil, Bool.false_and, normally_some, andThen_normal, andThen_exit, andThen_ret, atBlock_normal, atBlock_exit, atBlock_ret, lenV, sliceOf, arrayOf, fieldsOf, onBool_true, onBool_false, after_normal, after_exit, after_ret, normOf, norm, firstRegion, look, maskFrom, evBin, evIndexS, evLoad, evVar, evStore, evFieldAddr, nameOf, St.alloc, St.drop, killL, kill, killAll, killObs, killOb, upd, cells?, part, retag, retagL, putIn, refFree, refFreeL, isNew, isNewL, Ty.isAgg, splice, idsL, ids, idsLL, reach, depth, St.dropL, outOfCall_some, atEnd_normal, atEnd_ret, resultsV, resultV, allM_nil, allM_cons, resolve_int, resolve_bool, resolve_lit, resolve_sl, resolve_fp, resolve_emp, resolve_agg, resolve_tup, resolve_clo, resolve_own, Option.map_some, Option.map_none, List.length_cons, List.length_nil, List.length_map, ↓reduceIte, List.contains_cons, Bool.or_false, Bool.false_or, Bool.or_true, Bool.true_or, Nat.reduceBEq, beq_self_eq_true, List.map_cons, List.map_nil, List.filter_cons, List.filter_nil, List.flatMap_cons, List.flatMap_nil, Bool.not_true, Bool.not_false, and_self, and_true, true_and, List.getElem?_cons_zero, List.getElem?_cons_succ, List.getElem?_nil, List.drop_succ_cons, List.drop_zero, List.take_succ_cons, List.take_zero, List.drop_nil, List.take_nil, List.append_nil, Nat.reduceAdd, Nat.reduceSub, Nat.reduceMul, Nat.reduceEqDiff, Nat.reduceLeDiff, Nat.le_refl, Option.getD_none, Bool.and_true, Bool.true_and, Bool.and_false, Bool.and_self, Nat.lt_irrefl, Nat.reduceLT, Nat.zero_add, evRegion_still, evE, effOf, effMem, effStore, effCall, effVar, effLit, effMake, effApp, Eff.ap, evCall, lend, evAppend, evLit, evMake, evNil, freeze, onto, dropO, elemsV, sized, evCmp, eqT, eqG, minV, evUn, evField, evExtract, evIndexA, evIndexV, evSlice, optInt, fillV, placeOf, thawed, del, List.contains_append, Option.bind_none, Option.bind_some, Bool.and_eq_true, decide_true, decide_false, Bool.not_eq_true', List.take_length, List.range_succ, List.range_zero, Option.some.injEq, ne_eq, not_false_eq_true, not_true_eq_false, List.all_cons, List.all_nil, isNilSlice, List.getElem?_toArray, beqT, beqF, Bool.cond_true, Bool.cond_false, or_self, true_or, or_true, or_false, false_or, plain, plainL, ask_true, ask_false, pickV_true, pickV_false, resolve_ptr, cellsJ, junkOk, te, einl, inls]

theorem c25 (t u : Bool) (rs qs : List Run) (hn : rs.length ≤ 1000000000) : (orcω E X0).call 25 [.sl t (rs.map encRun), .sl u (qs.map encRun)] = some (.bool (decide (rs = qs))) := by
  refine call_of rfl fn25 rfl ?_
  have hok : okCode (Try.f25.body.getD .skip) = true := by decide +kernel
  simp only [Try.f25, Option.getD_some, okCode, Bool.and_eq_true, Bool.and_true, Bool.true_and] at hok
  by_cases hl : rs.length = qs.length
  case neg =>
    have h1 : ((rs.length : Int) != qs.length) = true := by simp; omega
    have h2 : decide (rs = qs) = false := by simp; intro e; exact hl (by rw [e])
    simp only [Try.ntmps25, Try.results25, efc25, fc25, h1, h2, Option.getD_some, List.replicate, List.cons_append, List.nil_append, den_seq, den_region, den_block, den_cond, den_skip, den_ret, den_exit, evOps, evOp, evPlain, evVal, evMem, wantedV, St.eval, St.put, St.get, constV, List.set, List.getD_cons_zero, List.getD_cons_succ, Bool.false_eq_true, if_false, List.contains_nil, Bool.false_and, normally_some, andThen_normal, andThen_exit, andThen_ret, atBlock_normal, atBlock_exit, atBlock_ret, lenV, sliceOf, arrayOf, fieldsOf, onBool_true, onBool_false, after_normal, after_exit, after_ret, normOf, norm, firstRegion, look, maskFrom, evBin, evIndexS, evLoad, evVar, evStore, evFieldAddr, nameOf, St.alloc, St.drop, killL, kill, killAll, killObs, killOb, upd, cells?, part, retag, retagL, putIn, refFree, refFreeL, isNew, isNewL, Ty.isAgg, splice, idsL, ids, idsLL, reach, depth, St.dropL, outOfCall_some, atEnd_normal, atEnd_ret, resultsV, resultV, allM_nil, allM_cons, resolve_int, resolve_bool, resolve_lit, resolve_sl, resolve_fp, resolve_emp, resolve_agg, resolve_tup, resolve_clo, resolve_own, Option.map_some, Option.map_none, List.length_cons, List.length_nil, List.length_map, ↓reduceIte, List.contains_cons, Bool.or_false, Bool.false_or, Bool.or_true, Bool.true_or, Nat.reduceBEq, beq_self_eq_true, List.map_cons, List.map_nil, List.filter_cons, List.filter_nil, List.flatMap_cons, List.flatMap_nil, Bool.not_true, Bool.not_false, and_self, and_true, true_and, List.getElem?_cons_zero, List.getElem?_cons_succ, List.getElem?_nil, List.drop_succ_cons, List.drop_zero, List.take_succ_cons, List.take_zero, List.drop_nil, List.take_nil, List.append_nil, Nat.reduceAdd, Nat.reduceSub, Nat.reduceMul, Nat.reduceEqDiff, Nat.reduceLeDiff, Nat.le_refl, Option.getD_none, Bool.and_true, Bool.true_and, Bool.and_false, Bool.and_self, Nat.lt_irrefl, Nat.reduceLT, Nat.zero_add, evRegion_still, evE, effOf, effMem, effStore, effCall, effVar, effLit, effMake, effApp, Eff.ap, evCall, lend, evAppend, evLit, evMake, evNil, freeze, onto, dropO, elemsV, sized, evCmp, eqT, eqG, minV, evUn, evField, evExtract, evIndexA, evIndexV, evSlice, optInt, fillV, placeOf, thawed, del, List.contains_append, Option.bind_none, Option.bind_some, Bool.and_eq_true, decide_true, decide_false, Bool.not_eq_true', List.take_length, List.range_succ, List.range_zero, Option.some.injEq, ne_eq, not_false_eq_true, not_true_eq_false, List.all_cons, List.all_nil, isNilSlice, List.getElem?_toArray, beqT, beqF, Bool.cond_true, Bool.cond_false, or_self, true_or, or_true, or_false, false_or, plain, plainL, ask_true, ask_false, pickV_true, pickV_false, resolve_ptr, cellsJ, junkOk, te, einl, inls]
  have h1 : ((rs.length : Int) != qs.length) = false := by simp; omega
  simp only [Try.ntmps25, Try.results25, efc25, fc25, h1, Option.getD_some, List.replicate, List.cons_append, List.nil_append, den_seq, den_region, den_block, den_cond, den_skip, den_ret, den_exit, evOps, evOp, evPlain, evVal, evMem, wantedV, St.eval, St.put, St.get, constV, List.set, List.getD_cons_zero, List.getD_cons_succ, Bool.false_eq_true, if_false, List.contains_nil, Bool.false_and, normally_some, andThen_normal, andThen_exit, andThen_ret, atBlock_normal, atBlock_exit, atBlock_ret, lenV, sliceOf, arrayOf, fieldsOf, onBool_true, onBool_false, after_normal, after_exit, after_ret, normOf, norm, firstRegion, look, maskFrom, evBin, evIndexS, evLoad, evVar, evStore, evFieldAddr, nameOf, St.alloc, St.drop, killL, kill, killAll, killObs, killOb, upd, cells?, part, retag, retagL, putIn, refFree, refFreeL, isNew, isNewL, Ty.isAgg, splice, idsL, ids, idsLL, reach, depth, St.dropL, outOfCall_some, atEnd_normal, atEnd_ret, resultsV, resultV, allM_nil, allM_cons, resolve_int, resolve_bool, resolve_lit, resolve_sl, resolve_fp, resolve_emp, resolve_agg, resolve_tup, resolve_clo, resolve_own, Option.map_some, Option.map_none, List.length_cons, List.length_nil, List.length_map, ↓reduceIte, List.contains_cons, Bool.or_false, Bool.false_or, Bool.or_true, Bool.true_or, Nat.reduceBEq, beq_self_eq_true, List.map_cons, List.map_nil, List.filter_cons, List.filter_nil, List.flatMap_cons, List.flatMap_nil, Bool.not_true, Bool.not_false, and_self, and_true, true_and, List.getElem?_cons_zero, List.getElem?_cons_succ, List.getElem?_nil, List.drop_succ_cons, List.drop_zero, List.take_succ_cons, List.take_zero, List.drop_nil, List.take_nil, List.append_nil, Nat.reduceAdd, Nat.reduceSub, Nat.reduceMul, Nat.reduceEqDiff, Nat.reduceLeDiff, Nat.le_refl, Option.getD_none, Bool.and_true, Bool.true_and, Bool.and_false, Bool.and_self, Nat.lt_irrefl, Nat.reduceLT, Nat.zero_add, evRegion_still, evE, effOf, effMem, effStore, effCall, effVar, effLit, effMake, effApp, Eff.ap, evCall, lend, evAppend, evLit, evMake, evNil, freeze, onto, dropO, elemsV, sized, evCmp, eqT, eqG, minV, evUn, evField, evExtract, evIndexA, evIndexV, evSlice, optInt, fillV, placeOf, thawed, del, List.contains_append, Option.bind_none, Option.bind_some, Bool.and_eq_true, decide_true, decide_false, Bool.not_eq_true', List.take_length, List.range_succ, List.range_zero, Option.some.injEq, ne_eq, not_false_eq_true, not_true_eq_false, List.all_cons, List.all_nil, isNilSlice, List.getElem?_toArray, beqT, beqF, Bool.cond_true, Bool.cond_false, or_self, true_or, or_true, or_false, false_or, plain, plainL, ask_true, ask_false, pickV_true, pickV_false, resolve_ptr, cellsJ, junkOk, te, einl, inls]
  generalize hr : den E X0 _ 0 (Code.loop _) _ = r
  refine den_loop_post (K := fun x => outOfCall (atEnd E _ (andThen (atBlock 0 x) _)) = some _) hr (α := { p : List Run × List Run × List Run // rs = p.1 ++ p.2.1 ∧ qs = p.1 ++ p.2.2 })
    (fun a => { slots := [.sl t (rs.map encRun), .sl u (qs.map encRun), .junk, .junk, .junk, .int .i64 a.1.1.length] ++ List.replicate 20 .junk, outer := [], objs := [] })
    (fun a => a.1.2.1.length) ⟨([], rs, qs), rfl, rfl⟩ ?_ ?_ <;> clear hr
  · simp only [Option.getD_some, List.replicate, List.cons_append, List.nil_append, den_seq, den_region, den_block, den_cond, den_skip, den_ret, den_exit, evOps, evOp, evPlain, evVal, evMem, wantedV, St.eval, St.put, St.get, constV, List.set, List.getD_cons_zero, List.getD_cons_succ, Bool.false_eq_true, if_false, List.contains_nil, Bool.false_and, normally_some, andThen_normal, andThen_exit, andThen_ret, atBlock_normal, atBlock_exit, atBlock_ret, lenV, sliceOf, arrayOf, fieldsOf, onBool_true, onBool_false, after_normal, after_exit, after_ret, normOf, norm, firstRegion, look, maskFrom, evBin, evIndexS, evLoad, evVar, evStore, evFieldAddr, nameOf, St.alloc, St.drop, killL, kill, killAll, killObs, killOb, upd, cells?, part, retag, retagL, putIn, refFree, refFreeL, isNew, isNewL, Ty.isAgg, splice, idsL, ids, idsLL, reach, depth, St.dropL, outOfCall_some, atEnd_normal, atEnd_ret, resultsV, resultV, allM_nil, allM_cons, resolve_int, resolve_bool, resolve_lit, resolve_sl, resolve_fp, resolve_emp, resolve_agg, resolve_tup, resolve_clo, resolve_own, Option.map_some, Option.map_none, List.length_cons, List.length_nil, List.length_map, ↓reduceIte, List.contains_cons, Bool.or_false, Bool.false_or, Bool.or_true, Bool.true_or, Nat.reduceBEq, beq_self_eq_true, List.map_cons, List.map_nil, List.filter_cons, List.filter_nil, List.flatMap_cons, List.flatMap_nil, Bool.not_true, Bool.not_false, and_self, and_true, true_and, List.getElem?_cons_zero, List.getElem?_cons_succ, List.getElem?_nil, List.drop_succ_cons, List.drop_zero, List.take_succ_cons, List.take_zero, List.drop_nil, List.take_nil, List.append_nil, Nat.reduceAdd, Nat.reduceSub, Nat.reduceMul, Nat.reduceEqDiff, Nat.reduceLeDiff, Nat.le_refl, Option.getD_none, Bool.and_true, Bool.true_and, Bool.and_false, Bool.and_self, Nat.lt_irrefl, Nat.reduceLT, Nat.zero_add, evRegion_still, evE, effOf, effMem, effStore, effCall, effVar, effLit, effMake, effApp, Eff.ap, evCall, lend, evAppend, evLit, evMake, evNil, freeze, onto, dropO, elemsV, sized, evCmp, eqT, eqG, minV, evUn, evField, evExtract, evIndexA, evIndexV, evSlice, optInt, fillV, placeOf, thawed, del, List.contains_append, Option.bind_none, Option.bind_some, Bool.and_eq_true, decide_true, decide_false, Bool.not_eq_true', List.take_length, List.range_succ, List.range_zero, Option.some.injEq, ne_eq, not_false_eq_true, not_true_eq_false, List.all_cons, List.all_nil, isNilSlice, List.getElem?_toArray, beqT, beqF, Bool.cond_true, Bool.cond_false, or_self, true_or, or_true, or_false, false_or, plain, plainL, ask_true, ask_false, pickV_true, pickV_false, resolve_ptr, cellsJ, junkOk, te, einl, inls, Int.natCast_zero]
  · rintro ⟨⟨pre, post, tail⟩, hp, hq⟩
    dsimp only at hp hq
    cases post with
    | nil =>
      have : tail = [] := by
        have e := congrArg List.length hp
        have e2 := congrArg List.length hq
        simp at e e2
        exact List.eq_nil_of_length_eq_zero (by omega)
      subst this
      simp only [List.append_nil] at hp hq
      subst hp; subst hq
      simp only [Try.results25, Int.lt_irrefl, Option.getD_some, List.replicate, List.cons_append, List.nil_append, den_seq, den_region, den_block, den_cond, den_skip, den_ret, den_exit, evOps, evOp, evPlain, evVal, evMem, wantedV, St.eval, St.put, St.get, constV, List.set, List.getD_cons_zero, List.getD_cons_succ, Bool.false_eq_true, if_false, List.contains_nil, Bool.false_and, normally_some, andThen_normal, andThen_exit, andThen_ret, atBlock_normal, atBlock_exit, atBlock_ret, lenV, sliceOf, arrayOf, fieldsOf, onBool_true, onBool_false, after_normal, after_exit, after_ret, normOf, norm, firstRegion, look, maskFrom, evBin, evIndexS, evLoad, evVar, evStore, evFieldAddr, nameOf, St.alloc, St.drop, killL, kill, killAll, killObs, killOb, upd, cells?, part, retag, retagL, putIn, refFree, refFreeL, isNew, isNewL, Ty.isAgg, splice, idsL, ids, idsLL, reach, depth, St.dropL, outOfCall_some, atEnd_normal, atEnd_ret, resultsV, resultV, allM_nil, allM_cons, resolve_int, resolve_bool, resolve_lit, resolve_sl, resolve_fp, resolve_emp, resolve_agg, resolve_tup, resolve_clo, resolve_own, Option.map_some, Option.map_none, List.length_cons, List.length_nil, List.length_map, ↓reduceIte, List.contains_cons, Bool.or_false, Bool.false_or, Bool.or_true, Bool.true_or, Nat.reduceBEq, beq_self_eq_true, List.map_cons, List.map_nil, List.filter_cons, List.filter_nil, List.flatMap_cons, List.flatMap_nil, Bool.not_true, Bool.not_false, and_self, and_true, true_and, List.getElem?_cons_zero, List.getElem?_cons_succ, List.getElem?_nil, List.drop_succ_cons, List.drop_zero, List.take_succ_cons, List.take_zero, List.drop_nil, List.take_nil, List.append_nil, Nat.reduceAdd, Nat.reduceSub, Nat.reduceMul, Nat.reduceEqDiff, Nat.reduceLeDiff, Nat.le_refl, Option.getD_none, Bool.and_true, Bool.true_and, Bool.and_false, Bool.and_self, Nat.lt_irrefl, Nat.reduceLT, Nat.zero_add, evRegion_still, evE, effOf, effMem, effStore, effCall, effVar, effLit, effMake, effApp, Eff.ap, evCall, lend, evAppend, evLit, evMake, evNil, freeze, onto, dropO, elemsV, sized, evCmp, eqT, eqG, minV, evUn, evField, evExtract, evIndexA, evIndexV, evSlice, optInt, fillV, placeOf, thawed, del, List.contains_append, Option.bind_none, Option.bind_some, Bool.and_eq_true, decide_true, decide_false, Bool.not_eq_true', List.take_length, List.range_succ, List.range_zero, Option.some.injEq, ne_eq, not_false_eq_true, not_true_eq_false, List.all_cons, List.all_nil, isNilSlice, List.getElem?_toArray, beqT, beqF, Bool.cond_true, Bool.cond_false, or_self, true_or, or_true, or_false, false_or, plain, plainL, ask_true, ask_false, pickV_true, pickV_false, resolve_ptr, cellsJ, junkOk, te, einl, inls]
    | cons r post =>
      cases tail with
      | nil =>
        have e := congrArg List.length hp
        have e2 := congrArg List.length hq
        simp at e e2
        omega
      | cons q tail =>
        have hlt : ((pre.length : Int) < rs.length) := by subst hp; simp; omega
        have hget : rs[pre.length]? = some r := by subst hp; simp
        have hget2 : qs[pre.length]? = some q := by subst hq; simp
        have hlt' : pre.length < rs.length := by omega
        have hw : IntKind.i64.wrap ((pre.length : Int) + 1) = ((pre ++ [r]).length : Int) := by rw [IntWalk.i64_in _ (by omega)]; simp
        by_cases hrq : r = q
        · subst hrq
          simp only [Try.results25, hok, evRegion_static, hlt, Int.natCast_nonneg, Int.toNat_natCast, List.getElem?_map, hget, hget2, encRun, Option.getD_some, List.replicate, List.cons_append, List.nil_append, den_seq, den_region, den_block, den_cond, den_skip, den_ret, den_exit, evOps, evOp, evPlain, evVal, evMem, wantedV, St.eval, St.put, St.get, constV, List.set, List.getD_cons_zero, List.getD_cons_succ, Bool.false_eq_true, if_false, List.contains_nil, Bool.false_and, normally_some, andThen_normal, andThen_exit, andThen_ret, atBlock_normal, atBlock_exit, atBlock_ret, lenV, sliceOf, arrayOf, fieldsOf, onBool_true, onBool_false, after_normal, after_exit, after_ret, normOf, norm, firstRegion, look, maskFrom, evBin, evIndexS, evLoad, evVar, evStore, evFieldAddr, nameOf, St.alloc, St.drop, killL, kill, killAll, killObs, killOb, upd, cells?, part, retag, retagL, putIn, refFree, refFreeL, isNew, isNewL, Ty.isAgg, splice, idsL, ids, idsLL, reach, depth, St.dropL, outOfCall_some, atEnd_normal, atEnd_ret, resultsV, resultV, allM_nil, allM_cons, resolve_int, resolve_bool, resolve_lit, resolve_sl, resolve_fp, resolve_emp, resolve_agg, resolve_tup, resolve_clo, resolve_own, Option.map_some, Option.map_none, List.length_cons, List.length_nil, List.length_map, ↓reduceIte, List.contains_cons, Bool.or_false, Bool.false_or, Bool.or_true, Bool.true_or, Nat.reduceBEq, beq_self_eq_true, List.map_cons, List.map_nil, List.filter_cons, List.filter_nil, List.flatMap_cons, List.flatMap_nil, Bool.not_true, Bool.not_false, and_self, and_true, true_and, List.getElem?_cons_zero, List.getElem?_cons_succ, List.getElem?_nil, List.drop_succ_cons, List.drop_zero, List.take_succ_cons, List.take_zero, List.drop_nil, List.take_nil, List.append_nil, Nat.reduceAdd, Nat.reduceSub, Nat.reduceMul, Nat.reduceEqDiff, Nat.reduceLeDiff, Nat.le_refl, Option.getD_none, Bool.and_true, Bool.true_and, Bool.and_false, Bool.and_self, Nat.lt_irrefl, Nat.reduceLT, Nat.zero_add, evRegion_still, evE, effOf, effMem, effStore, effCall, effVar, effLit, effMake, effApp, Eff.ap, evCall, lend, evAppend, evLit, evMake, evNil, freeze, onto, dropO, elemsV, sized, evCmp, eqT, eqG, minV, evUn, evField, evExtract, evIndexA, evIndexV, evSlice, optInt, fillV, placeOf, thawed, del, List.contains_append, Option.bind_none, Option.bind_some, Bool.and_eq_true, decide_true, decide_false, Bool.not_eq_true', List.take_length, List.range_succ, List.range_zero, Option.some.injEq, ne_eq, not_false_eq_true, not_true_eq_false, List.all_cons, List.all_nil, isNilSlice, List.getElem?_toArray, beqT, beqF, Bool.cond_true, Bool.cond_false, or_self, true_or, or_true, or_false, false_or, plain, plainL, ask_true, ask_false, pickV_true, pickV_false, resolve_ptr, cellsJ, junkOk, te, einl, inls]
          exact ⟨⟨(pre ++ [r], post, tail), by simpa using hp, by simpa using hq⟩, by simp only [hw, Option.getD_some, List.replicate, List.cons_append, List.nil_append, den_seq, den_region, den_block, den_cond, den_skip, den_ret, den_exit, evOps, evOp, evPlain, evVal, evMem, wantedV, St.eval, St.put, St.get, constV, List.set, List.getD_cons_zero, List.getD_cons_succ, Bool.false_eq_true, if_false, List.contains_nil, Bool.false_and, normally_some, andThen_normal, andThen_exit, andThen_ret, atBlock_normal, atBlock_exit, atBlock_ret, lenV, sliceOf, arrayOf, fieldsOf, onBool_true, onBool_false, after_normal, after_exit, after_ret, normOf, norm, firstRegion, look, maskFrom, evBin, evIndexS, evLoad, evVar, evStore, evFieldAddr, nameOf, St.alloc, St.drop, killL, kill, killAll, killObs, killOb, upd, cells?, part, retag, retagL, putIn, refFree, refFreeL, isNew, isNewL, Ty.isAgg, splice, idsL, ids, idsLL, reach, depth, St.dropL, outOfCall_some, atEnd_normal, atEnd_ret, resultsV, resultV, allM_nil, allM_cons, resolve_int, resolve_bool, resolve_lit, resolve_sl, resolve_fp, resolve_emp, resolve_agg, resolve_tup, resolve_clo, resolve_own, Option.map_some, Option.map_none, List.length_cons, List.length_nil, List.length_map, ↓reduceIte, List.contains_cons, Bool.or_false, Bool.false_or, Bool.or_true, Bool.true_or, Nat.reduceBEq, beq_self_eq_true, List.map_cons, List.map_nil, List.filter_cons, List.filter_nil, List.flatMap_cons, List.flatMap_nil, Bool.not_true, Bool.not_false, and_self, and_true, true_and, List.getElem?_cons_zero, List.getElem?_cons_succ, List.getElem?_nil, List.drop_succ_cons, List.drop_zero, List.take_succ_cons, List.take_zero, List.drop_nil, List.take_nil, List.append_nil, Nat.reduceAdd, Nat.reduceSub, Nat.reduceMul, Nat.reduceEqDiff, Nat.reduceLeDiff, Nat.le_refl, Option.getD_none, Bool.and_true, Bool.true_and, Bool.and_false, Bool.and_self, Nat.lt_irrefl, Nat.reduceLT, Nat.zero_add, evRegion_still, evE, effOf, effMem, effStore, effCall, effVar, effLit, effMake, effApp, Eff.ap, evCall, lend, evAppend, evLit, evMake, evNil, freeze, onto, dropO, elemsV, sized, evCmp, eqT, eqG, minV, evUn, evField, evExtract, evIndexA, evIndexV, evSlice, optInt, fillV, placeOf, thawed, del, List.contains_append, Option.bind_none, Option.bind_some, Bool.and_eq_true, decide_true, decide_false, Bool.not_eq_true', List.take_length, List.range_succ, List.range_zero, Option.some.injEq, ne_eq, not_false_eq_true, not_true_eq_false, List.all_cons, List.all_nil, isNilSlice, List.getElem?_toArray, beqT, beqF, Bool.cond_true, Bool.cond_false, or_self, true_or, or_true, or_false, false_or, plain, plainL, ask_true, ask_false, pickV_true, pickV_false, resolve_ptr, cellsJ, junkOk, te, einl, inls], Nat.lt_succ_self _⟩
        · have hne : decide (rs = qs) = false := by
            simp; intro e; rw [hp, hq] at e; simp at e; exact hrq e.1
          have hcmp : (r.len == q.len && (r.thick == q.thick && (r.shade == q.shade && r.flaw == q.flaw))) = false := by
            cases hb : (r.len == q.len && (r.thick == q.thick && (r.shade == q.shade && r.flaw == q.flaw))) with
            | false => rfl
            | true =>
              exfalso
              simp at hb
              apply hrq
              cases r; cases q
              simp_all
          simp only [Try.results25, hok, evRegion_static, hlt, Int.natCast_nonneg, Int.toNat_natCast, List.getElem?_map, hget, hget2, encRun, hcmp, hne, Option.getD_some, List.replicate, List.cons_append, List.nil_append, den_seq, den_region, den_block, den_cond, den_skip, den_ret, den_exit, evOps, evOp, evPlain, evVal, evMem, wantedV, St.eval, St.put, St.get, constV, List.set, List.getD_cons_zero, List.getD_cons_succ, Bool.false_eq_true, if_false, List.contains_nil, Bool.false_and, normally_some, andThen_normal, andThen_exit, andThen_ret, atBlock_normal, atBlock_exit, atBlock_ret, lenV, sliceOf, arrayOf, fieldsOf, onBool_true, onBool_false, after_normal, after_exit, after_ret, normOf, norm, firstRegion, look, maskFrom, evBin, evIndexS, evLoad, evVar, evStore, evFieldAddr, nameOf, St.alloc, St.drop, killL, kill, killAll, killObs, killOb, upd, cells?, part, retag, retagL, putIn, refFree, refFreeL, isNew, isNewL, Ty.isAgg, splice, idsL, ids, idsLL, reach, depth, St.dropL, outOfCall_some, atEnd_normal, atEnd_ret, resultsV, resultV, allM_nil, allM_cons, resolve_int, resolve_bool, resolve_lit, resolve_sl, resolve_fp, resolve_emp, resolve_agg, resolve_tup, resolve_clo, resolve_own, Option.map_some, Option.map_none, List.length_cons, List.length_nil, List.length_map, ↓reduceIte, List.contains_cons, Bool.or_false, Bool.false_or, Bool.or_true, Bool.true_or, Nat.reduceBEq, beq_self_eq_true, List.map_cons, List.map_nil, List.filter_cons, List.filter_nil, List.flatMap_cons, List.flatMap_nil, Bool.not_true, Bool.not_false, and_self, and_true, true_and, List.getElem?_cons_zero, List.getElem?_cons_succ, List.getElem?_nil, List.drop_succ_cons, List.drop_zero, List.take_succ_cons, List.take_zero, List.drop_nil, List.take_nil, List.append_nil, Nat.reduceAdd, Nat.reduceSub, Nat.reduceMul, Nat.reduceEqDiff, Nat.reduceLeDiff, Nat.le_refl, Option.getD_none, Bool.and_true, Bool.true_and, Bool.and_false, Bool.and_self, Nat.lt_irrefl, Nat.reduceLT, Nat.zero_add, evRegion_still, evE, effOf, effMem, effStore, effCall, effVar, effLit, effMake, effApp, Eff.ap, evCall, lend, evAppend, evLit, evMake, evNil, freeze, onto, dropO, elemsV, sized, evCmp, eqT, eqG, minV, evUn, evField, evExtract, evIndexA, evIndexV, evSlice, optInt, fillV, placeOf, thawed, del, List.contains_append, Option.bind_none, Option.bind_some, Bool.and_eq_true, decide_true, decide_false, Bool.not_eq_true', List.take_length, List.range_succ, List.range_zero, Option.some.injEq, ne_eq, not_false_eq_true, not_true_eq_false, List.all_cons, List.all_nil, isNilSlice, List.getElem?_toArray, beqT, beqF, Bool.cond_true, Bool.cond_false, or_self, true_or, or_true, or_false, false_or, plain, plainL, ask_true, ask_false, pickV_true, pickV_false, resolve_ptr, cellsJ, junkOk, te, einl, inls]

def pushR (acc : List Run) (r : Run) : List Run := if r.len = 0 then acc else push acc r
def joinR (rs : List Run) : List Run := rs.foldl pushR []

end Go.AM.A
end

section
namespace Go.AM.A
open Go Go.Proofs

theorem pushR_le (acc : List Run) (r : Run) : (pushR acc r).length ≤ acc.length + 1 := by
  unfold pushR
  split
  · omega
  · exact push_le acc r

theorem c76 (t : Bool) (rs : List Run) (hn : rs.length ≤ 1000000000) : (orcω E X0).call 76 [.sl t (rs.map encRun)] = some (.sl true ((joinR rs).map encRun)) := by
  refine call_of rfl fn76 rfl ?_
  have hok : okCode (Try.f76.body.getD .skip) = true := by decide +kernel
  simp only [Try.f76, Option.getD_some, okCode, Bool.and_eq_true, Bool.and_true, Bool.true_and] at hok
  simp only [Try.ntmps76, Try.results76, efc76, fc76, Option.getD_some, List.replicate, List.cons_append, List.nil_append, den_seq, den_region, den_block, den_cond, den_skip, den_ret, den_exit, evOps, evOp, evPlain, evVal, evMem, wantedV, St.eval, St.put, St.get, constV, List.set, List.getD_cons_zero, List.getD_cons_succ, Bool.false_eq_true, if_false, List.contains_nil, Bool.false_and, normally_some, andThen_normal, andThen_exit, andThen_ret, atBlock_normal, atBlock_exit, atBlock_ret, lenV, sliceOf, arrayOf, fieldsOf, onBool_true, onBool_false, after_normal, after_exit, after_ret, normOf, norm, firstRegion, look, maskFrom, evBin, evIndexS, evLoad, evVar, evStore, evFieldAddr, nameOf, St.alloc, St.drop, killL, kill, killAll, killObs, killOb, upd, cells?, part, retag, retagL, putIn, refFree, refFreeL, isNew, isNewL, Ty.isAgg, splice, idsL, ids, idsLL, reach, depth, St.dropL, outOfCall_some, atEnd_normal, atEnd_ret, resultsV, resultV, allM_nil, allM_cons, resolve_int, resolve_bool, resolve_lit, resolve_sl, resolve_fp, resolve_emp, resolve_agg, resolve_tup, resolve_clo, resolve_own, Option.map_some, Option.map_none, List.length_cons, List.length_nil, List.length_map, ↓reduceIte, List.contains_cons, Bool.or_false, Bool.false_or, Bool.or_true, Bool.true_or, Nat.reduceBEq, beq_self_eq_true, List.map_cons, List.map_nil, List.filter_cons, List.filter_nil, List.flatMap_cons, List.flatMap_nil, Bool.not_true, Bool.not_false, and_self, and_true, true_and, List.getElem?_cons_zero, List.getElem?_cons_succ, List.getElem?_nil, List.drop_succ_cons, List.drop_zero, List.take_succ_cons, List.take_zero, List.drop_nil, List.take_nil, List.append_nil, Nat.reduceAdd, Nat.reduceSub, Nat.reduceMul, Nat.reduceEqDiff, Nat.reduceLeDiff, Nat.le_refl, Option.getD_none, Bool.and_true, Bool.true_and, Bool.and_false, Bool.and_self, Nat.lt_irrefl, Nat.reduceLT, Nat.zero_add, evRegion_still, evE, effOf, effMem, effStore, effCall, effVar, effLit, effMake, effApp, Eff.ap, evCall, lend, evAppend, evLit, evMake, evNil, freeze, onto, dropO, elemsV, sized, evCmp, eqT, eqG, minV, evUn, evField, evExtract, evIndexA, evIndexV, evSlice, optInt, fillV, placeOf, thawed, del, List.contains_append, Option.bind_none, Option.bind_some, Bool.and_eq_true, decide_true, decide_false, Bool.not_eq_true', List.take_length, List.range_succ, List.range_zero, Option.some.injEq, ne_eq, not_false_eq_true, not_true_eq_false, List.all_cons, List.all_nil, isNilSlice, List.getElem?_toArray, beqT, beqF, Bool.cond_true, Bool.cond_false, or_self, true_or, or_true, or_false, false_or, plain, plainL, ask_true, ask_false, pickV_true, pickV_false, resolve_ptr, cellsJ, junkOk, te, einl, inls]
  generalize hr : den E X0 _ 0 (Code.loop _) _ = r
  refine den_loop_post (K := fun x => outOfCall (atEnd E _ (andThen (atBlock 0 x) _)) = some _) hr (α := { p : (List Run × List Run) × List Run // rs = p.1.1 ++ p.1.2 ∧ p.2 = joinR p.1.1 ∧ p.2.length ≤ p.1.1.length })
    (fun a => { slots := [.sl t (rs.map encRun), .junk, .junk, .own 3 0 a.1.2.length, .int .i64 a.1.1.1.length] ++ List.replicate 53 .junk, outer := [], objs := [(3, { es := 4, flat := true, t := true, app := true, elems := a.1.2.map encRun })] })
    (fun a => a.1.1.2.length) ⟨(([], rs), []), rfl, rfl, Nat.le_refl _⟩ ?_ ?_ <;> clear hr
  · simp only [Option.getD_some, List.replicate, List.cons_append, List.nil_append, den_seq, den_region, den_block, den_cond, den_skip, den_ret, den_exit, evOps, evOp, evPlain, evVal, evMem, wantedV, St.eval, St.put, St.get, constV, List.set, List.getD_cons_zero, List.getD_cons_succ, Bool.false_eq_true, if_false, List.contains_nil, Bool.false_and, normally_some, andThen_normal, andThen_exit, andThen_ret, atBlock_normal, atBlock_exit, atBlock_ret, lenV, sliceOf, arrayOf, fieldsOf, onBool_true, onBool_false, after_normal, after_exit, after_ret, normOf, norm, firstRegion, look, maskFrom, evBin, evIndexS, evLoad, evVar, evStore, evFieldAddr, nameOf, St.alloc, St.drop, killL, kill, killAll, killObs, killOb, upd, cells?, part, retag, retagL, putIn, refFree, refFreeL, isNew, isNewL, Ty.isAgg, splice, idsL, ids, idsLL, reach, depth, St.dropL, outOfCall_some, atEnd_normal, atEnd_ret, resultsV, resultV, allM_nil, allM_cons, resolve_int, resolve_bool, resolve_lit, resolve_sl, resolve_fp, resolve_emp, resolve_agg, resolve_tup, resolve_clo, resolve_own, Option.map_some, Option.map_none, List.length_cons, List.length_nil, List.length_map, ↓reduceIte, List.contains_cons, Bool.or_false, Bool.false_or, Bool.or_true, Bool.true_or, Nat.reduceBEq, beq_self_eq_true, List.map_cons, List.map_nil, List.filter_cons, List.filter_nil, List.flatMap_cons, List.flatMap_nil, Bool.not_true, Bool.not_false, and_self, and_true, true_and, List.getElem?_cons_zero, List.getElem?_cons_succ, List.getElem?_nil, List.drop_succ_cons, List.drop_zero, List.take_succ_cons, List.take_zero, List.drop_nil, List.take_nil, List.append_nil, Nat.reduceAdd, Nat.reduceSub, Nat.reduceMul, Nat.reduceEqDiff, Nat.reduceLeDiff, Nat.le_refl, Option.getD_none, Bool.and_true, Bool.true_and, Bool.and_false, Bool.and_self, Nat.lt_irrefl, Nat.reduceLT, Nat.zero_add, evRegion_still, evE, effOf, effMem, effStore, effCall, effVar, effLit, effMake, effApp, Eff.ap, evCall, lend, evAppend, evLit, evMake, evNil, freeze, onto, dropO, elemsV, sized, evCmp, eqT, eqG, minV, evUn, evField, evExtract, evIndexA, evIndexV, evSlice, optInt, fillV, placeOf, thawed, del, List.contains_append, Option.bind_none, Option.bind_some, Bool.and_eq_true, decide_true, decide_false, Bool.not_eq_true', List.take_length, List.range_succ, List.range_zero, Option.some.injEq, ne_eq, not_false_eq_true, not_true_eq_false, List.all_cons, List.all_nil, isNilSlice, List.getElem?_toArray, beqT, beqF, Bool.cond_true, Bool.cond_false, or_self, true_or, or_true, or_false, false_or, plain, plainL, ask_true, ask_false, pickV_true, pickV_false, resolve_ptr, cellsJ, junkOk, te, einl, inls, Int.natCast_zero]
  · rintro ⟨⟨⟨pre, post⟩, acc⟩, hp, hacc, hle⟩
    dsimp only at hp hacc hle
    cases post with
    | nil =>
      obtain rfl : rs = pre := by simpa using hp
      subst hacc
      simp only [Try.results76, Int.lt_irrefl, take_map, Option.getD_some, List.replicate, List.cons_append, List.nil_append, den_seq, den_region, den_block, den_cond, den_skip, den_ret, den_exit, evOps, evOp, evPlain, evVal, evMem, wantedV, St.eval, St.put, St.get, constV, List.set, List.getD_cons_zero, List.getD_cons_succ, Bool.false_eq_true, if_false, List.contains_nil, Bool.false_and, normally_some, andThen_normal, andThen_exit, andThen_ret, atBlock_normal, atBlock_exit, atBlock_ret, lenV, sliceOf, arrayOf, fieldsOf, onBool_true, onBool_false, after_normal, after_exit, after_ret, normOf, norm, firstRegion, look, maskFrom, evBin, evIndexS, evLoad, evVar, evStore, evFieldAddr, nameOf, St.alloc, St.drop, killL, kill, killAll, killObs, killOb, upd, cells?, part, retag, retagL, putIn, refFree, refFreeL, isNew, isNewL, Ty.isAgg, splice, idsL, ids, idsLL, reach, depth, St.dropL, outOfCall_some, atEnd_normal, atEnd_ret, resultsV, resultV, allM_nil, allM_cons, resolve_int, resolve_bool, resolve_lit, resolve_sl, resolve_fp, resolve_emp, resolve_agg, resolve_tup, resolve_clo, resolve_own, Option.map_some, Option.map_none, List.length_cons, List.length_nil, List.length_map, ↓reduceIte, List.contains_cons, Bool.or_false, Bool.false_or, Bool.or_true, Bool.true_or, Nat.reduceBEq, beq_self_eq_true, List.map_cons, List.map_nil, List.filter_cons, List.filter_nil, List.flatMap_cons, List.flatMap_nil, Bool.not_true, Bool.not_false, and_self, and_true, true_and, List.getElem?_cons_zero, List.getElem?_cons_succ, List.getElem?_nil, List.drop_succ_cons, List.drop_zero, List.take_succ_cons, List.take_zero, List.drop_nil, List.take_nil, List.append_nil, Nat.reduceAdd, Nat.reduceSub, Nat.reduceMul, Nat.reduceEqDiff, Nat.reduceLeDiff, Nat.le_refl, Option.getD_none, Bool.and_true, Bool.true_and, Bool.and_false, Bool.and_self, Nat.lt_irrefl, Nat.reduceLT, Nat.zero_add, evRegion_still, evE, effOf, effMem, effStore, effCall, effVar, effLit, effMake, effApp, Eff.ap, evCall, lend, evAppend, evLit, evMake, evNil, freeze, onto, dropO, elemsV, sized, evCmp, eqT, eqG, minV, evUn, evField, evExtract, evIndexA, evIndexV, evSlice, optInt, fillV, placeOf, thawed, del, List.contains_append, Option.bind_none, Option.bind_some, Bool.and_eq_true, decide_true, decide_false, Bool.not_eq_true', List.take_length, List.range_succ, List.range_zero, Option.some.injEq, ne_eq, not_false_eq_true, not_true_eq_false, List.all_cons, List.all_nil, isNilSlice, List.getElem?_toArray, beqT, beqF, Bool.cond_true, Bool.cond_false, or_self, true_or, or_true, or_false, false_or, plain, plainL, ask_true, ask_false, pickV_true, pickV_false, resolve_ptr, cellsJ, junkOk, te, einl, inls]
    | cons r post =>
      have hlt : ((pre.length : Int) < rs.length) := by subst hp; simp; omega
      have hget : rs[pre.length]? = some r := by subst hp; simp
      have hw : IntKind.i64.wrap ((pre.length : Int) + 1) = ((pre ++ [r]).length : Int) := by rw [IntWalk.i64_in _ (by omega)]; simp
      have hlt' : pre.length < rs.length := by omega
      have hroom : roomy (acc.length + 1) 32 = true := by simp [roomy]; omega
      have hbig : acc.length + 1 ≤ 4294967296 := by omega
      have hacc' : pushR acc r = joinR (pre ++ [r]) := by rw [hacc]; simp [joinR]
      have hple := pushR_le acc r
      have fin : ∀ (s : St), s = { slots := [.sl t (rs.map encRun), .junk, .junk, .own 3 0 (pushR acc r).length, .int .i64 ((pre ++ [r]).length : Nat)] ++ List.replicate 53 .junk, outer := [], objs := [(3, { es := 4, flat := true, t := true, app := true, elems := (pushR acc r).map encRun })] } →
          ∃ a' : { p : (List Run × List Run) × List Run // rs = p.1.1 ++ p.1.2 ∧ p.2 = joinR p.1.1 ∧ p.2.length ≤ p.1.1.length }, s = { slots := [.sl t (rs.map encRun), .junk, .junk, .own 3 0 a'.1.2.length, .int .i64 a'.1.1.1.length] ++ List.replicate 53 .junk, outer := [], objs := [(3, { es := 4, flat := true, t := true, app := true, elems := a'.1.2.map encRun })] } ∧ a'.1.1.2.length < (r :: post).length := fun s hs =>
        ⟨⟨((pre ++ [r], post), pushR acc r), by simpa using hp, hacc', by simp; omega⟩, hs, Nat.lt_succ_self _⟩
      by_cases hz : r.len = 0
      · have hz' : (r.len == 0) = true := by simp [hz]
        simp only [hlt, Int.natCast_nonneg, Int.toNat_natCast, List.getElem?_map, hget, encRun, hz', Option.getD_some, List.replicate, List.cons_append, List.nil_append, den_seq, den_region, den_block, den_cond, den_skip, den_ret, den_exit, evOps, evOp, evPlain, evVal, evMem, wantedV, St.eval, St.put, St.get, constV, List.set, List.getD_cons_zero, List.getD_cons_succ, Bool.false_eq_true, if_false, List.contains_nil, Bool.false_and, normally_some, andThen_normal, andThen_exit, andThen_ret, atBlock_normal, atBlock_exit, atBlock_ret, lenV, sliceOf, arrayOf, fieldsOf, onBool_true, onBool_false, after_normal, after_exit, after_ret, normOf, norm, firstRegion, look, maskFrom, evBin, evIndexS, evLoad, evVar, evStore, evFieldAddr, nameOf, St.alloc, St.drop, killL, kill, killAll, killObs, killOb, upd, cells?, part, retag, retagL, putIn, refFree, refFreeL, isNew, isNewL, Ty.isAgg, splice, idsL, ids, idsLL, reach, depth, St.dropL, outOfCall_some, atEnd_normal, atEnd_ret, resultsV, resultV, allM_nil, allM_cons, resolve_int, resolve_bool, resolve_lit, resolve_sl, resolve_fp, resolve_emp, resolve_agg, resolve_tup, resolve_clo, resolve_own, Option.map_some, Option.map_none, List.length_cons, List.length_nil, List.length_map, ↓reduceIte, List.contains_cons, Bool.or_false, Bool.false_or, Bool.or_true, Bool.true_or, Nat.reduceBEq, beq_self_eq_true, List.map_cons, List.map_nil, List.filter_cons, List.filter_nil, List.flatMap_cons, List.flatMap_nil, Bool.not_true, Bool.not_false, and_self, and_true, true_and, List.getElem?_cons_zero, List.getElem?_cons_succ, List.getElem?_nil, List.drop_succ_cons, List.drop_zero, List.take_succ_cons, List.take_zero, List.drop_nil, List.take_nil, List.append_nil, Nat.reduceAdd, Nat.reduceSub, Nat.reduceMul, Nat.reduceEqDiff, Nat.reduceLeDiff, Nat.le_refl, Option.getD_none, Bool.and_true, Bool.true_and, Bool.and_false, Bool.and_self, Nat.lt_irrefl, Nat.reduceLT, Nat.zero_add, evRegion_still, evE, effOf, effMem, effStore, effCall, effVar, effLit, effMake, effApp, Eff.ap, evCall, lend, evAppend, evLit, evMake, evNil, freeze, onto, dropO, elemsV, sized, evCmp, eqT, eqG, minV, evUn, evField, evExtract, evIndexA, evIndexV, evSlice, optInt, fillV, placeOf, thawed, del, List.contains_append, Option.bind_none, Option.bind_some, Bool.and_eq_true, decide_true, decide_false, Bool.not_eq_true', List.take_length, List.range_succ, List.range_zero, Option.some.injEq, ne_eq, not_false_eq_true, not_true_eq_false, List.all_cons, List.all_nil, isNilSlice, List.getElem?_toArray, beqT, beqF, Bool.cond_true, Bool.cond_false, or_self, true_or, or_true, or_false, false_or, plain, plainL, ask_true, ask_false, pickV_true, pickV_false, resolve_ptr, cellsJ, junkOk, te, einl, inls]
        refine fin _ ?_
        simp [pushR, hz, hw, encRun]
      have hz' : (r.len == 0) = false := by simp [hz]
      rcases push_cases acc with h0 | ⟨n, s, hn1, hn2, hn3⟩
      · subst h0
        have hroom1 : roomy 1 32 = true := by simp [roomy]
        simp only [hroom1, hok, evRegion_static, hlt, Int.natCast_nonneg, Int.toNat_natCast, List.getElem?_map, hget, encRun, hz', Int.natCast_zero, Int.lt_irrefl, hroom, hbig, Option.getD_some, List.replicate, List.cons_append, List.nil_append, den_seq, den_region, den_block, den_cond, den_skip, den_ret, den_exit, evOps, evOp, evPlain, evVal, evMem, wantedV, St.eval, St.put, St.get, constV, List.set, List.getD_cons_zero, List.getD_cons_succ, Bool.false_eq_true, if_false, List.contains_nil, Bool.false_and, normally_some, andThen_normal, andThen_exit, andThen_ret, atBlock_normal, atBlock_exit, atBlock_ret, lenV, sliceOf, arrayOf, fieldsOf, onBool_true, onBool_false, after_normal, after_exit, after_ret, normOf, norm, firstRegion, look, maskFrom, evBin, evIndexS, evLoad, evVar, evStore, evFieldAddr, nameOf, St.alloc, St.drop, killL, kill, killAll, killObs, killOb, upd, cells?, part, retag, retagL, putIn, refFree, refFreeL, isNew, isNewL, Ty.isAgg, splice, idsL, ids, idsLL, reach, depth, St.dropL, outOfCall_some, atEnd_normal, atEnd_ret, resultsV, resultV, allM_nil, allM_cons, resolve_int, resolve_bool, resolve_lit, resolve_sl, resolve_fp, resolve_emp, resolve_agg, resolve_tup, resolve_clo, resolve_own, Option.map_some, Option.map_none, List.length_cons, List.length_nil, List.length_map, ↓reduceIte, List.contains_cons, Bool.or_false, Bool.false_or, Bool.or_true, Bool.true_or, Nat.reduceBEq, beq_self_eq_true, List.map_cons, List.map_nil, List.filter_cons, List.filter_nil, List.flatMap_cons, List.flatMap_nil, Bool.not_true, Bool.not_false, and_self, and_true, true_and, List.getElem?_cons_zero, List.getElem?_cons_succ, List.getElem?_nil, List.drop_succ_cons, List.drop_zero, List.take_succ_cons, List.take_zero, List.drop_nil, List.take_nil, List.append_nil, Nat.reduceAdd, Nat.reduceSub, Nat.reduceMul, Nat.reduceEqDiff, Nat.reduceLeDiff, Nat.le_refl, Option.getD_none, Bool.and_true, Bool.true_and, Bool.and_false, Bool.and_self, Nat.lt_irrefl, Nat.reduceLT, Nat.zero_add, evRegion_still, evE, effOf, effMem, effStore, effCall, effVar, effLit, effMake, effApp, Eff.ap, evCall, lend, evAppend, evLit, evMake, evNil, freeze, onto, dropO, elemsV, sized, evCmp, eqT, eqG, minV, evUn, evField, evExtract, evIndexA, evIndexV, evSlice, optInt, fillV, placeOf, thawed, del, List.contains_append, Option.bind_none, Option.bind_some, Bool.and_eq_true, decide_true, decide_false, Bool.not_eq_true', List.take_length, List.range_succ, List.range_zero, Option.some.injEq, ne_eq, not_false_eq_true, not_true_eq_false, List.all_cons, List.all_nil, isNilSlice, List.getElem?_toArray, beqT, beqF, Bool.cond_true, Bool.cond_false, or_self, true_or, or_true, or_false, false_or, plain, plainL, ask_true, ask_false, pickV_true, pickV_false, resolve_ptr, cellsJ, junkOk, te, einl, inls]
        refine fin _ ?_
        simp [pushR, hz, push, hw, encRun]
      · have hpos : (0 : Int) < acc.length := by omega
        have hsub : IntKind.i64.wrap ((acc.length : Int) - 1) = (n : Int) := by rw [IntWalk.i64_in _ (by omega)]; omega
        have hlt2 : (n : Int) < acc.length := by omega
        cases hs : same s r with
        | false =>
          have hs' := hs
          unfold same at hs'
          simp only [Bool.and_true] at hs'
          simp only [hok, evRegion_static, hlt, Int.natCast_nonneg, Int.toNat_natCast, List.getElem?_map, hget, encRun, hz', hpos, hsub, hlt2, hn2, hs', hroom, hbig, Option.getD_some, List.replicate, List.cons_append, List.nil_append, den_seq, den_region, den_block, den_cond, den_skip, den_ret, den_exit, evOps, evOp, evPlain, evVal, evMem, wantedV, St.eval, St.put, St.get, constV, List.set, List.getD_cons_zero, List.getD_cons_succ, Bool.false_eq_true, if_false, List.contains_nil, Bool.false_and, normally_some, andThen_normal, andThen_exit, andThen_ret, atBlock_normal, atBlock_exit, atBlock_ret, lenV, sliceOf, arrayOf, fieldsOf, onBool_true, onBool_false, after_normal, after_exit, after_ret, normOf, norm, firstRegion, look, maskFrom, evBin, evIndexS, evLoad, evVar, evStore, evFieldAddr, nameOf, St.alloc, St.drop, killL, kill, killAll, killObs, killOb, upd, cells?, part, retag, retagL, putIn, refFree, refFreeL, isNew, isNewL, Ty.isAgg, splice, idsL, ids, idsLL, reach, depth, St.dropL, outOfCall_some, atEnd_normal, atEnd_ret, resultsV, resultV, allM_nil, allM_cons, resolve_int, resolve_bool, resolve_lit, resolve_sl, resolve_fp, resolve_emp, resolve_agg, resolve_tup, resolve_clo, resolve_own, Option.map_some, Option.map_none, List.length_cons, List.length_nil, List.length_map, ↓reduceIte, List.contains_cons, Bool.or_false, Bool.false_or, Bool.or_true, Bool.true_or, Nat.reduceBEq, beq_self_eq_true, List.map_cons, List.map_nil, List.filter_cons, List.filter_nil, List.flatMap_cons, List.flatMap_nil, Bool.not_true, Bool.not_false, and_self, and_true, true_and, List.getElem?_cons_zero, List.getElem?_cons_succ, List.getElem?_nil, List.drop_succ_cons, List.drop_zero, List.take_succ_cons, List.take_zero, List.drop_nil, List.take_nil, List.append_nil, Nat.reduceAdd, Nat.reduceSub, Nat.reduceMul, Nat.reduceEqDiff, Nat.reduceLeDiff, Nat.le_refl, Option.getD_none, Bool.and_true, Bool.true_and, Bool.and_false, Bool.and_self, Nat.lt_irrefl, Nat.reduceLT, Nat.zero_add, evRegion_still, evE, effOf, effMem, effStore, effCall, effVar, effLit, effMake, effApp, Eff.ap, evCall, lend, evAppend, evLit, evMake, evNil, freeze, onto, dropO, elemsV, sized, evCmp, eqT, eqG, minV, evUn, evField, evExtract, evIndexA, evIndexV, evSlice, optInt, fillV, placeOf, thawed, del, List.contains_append, Option.bind_none, Option.bind_some, Bool.and_eq_true, decide_true, decide_false, Bool.not_eq_true', List.take_length, List.range_succ, List.range_zero, Option.some.injEq, ne_eq, not_false_eq_true, not_true_eq_false, List.all_cons, List.all_nil, isNilSlice, List.getElem?_toArray, beqT, beqF, Bool.cond_true, Bool.cond_false, or_self, true_or, or_true, or_false, false_or, plain, plainL, ask_true, ask_false, pickV_true, pickV_false, resolve_ptr, cellsJ, junkOk, te, einl, inls]
          refine fin _ ?_
          simp [pushR, hz, push, hn3, hs, hw, encRun]
        | true =>
          have hs' := hs
          unfold same at hs'
          simp only [Bool.and_true] at hs'
          simp only [hok, evRegion_static, hlt, Int.natCast_nonneg, Int.toNat_natCast, List.getElem?_map, hget, encRun, hz', hpos, hsub, hlt2, hn2, hs', hroom, hbig, Option.getD_some, List.replicate, List.cons_append, List.nil_append, den_seq, den_region, den_block, den_cond, den_skip, den_ret, den_exit, evOps, evOp, evPlain, evVal, evMem, wantedV, St.eval, St.put, St.get, constV, List.set, List.getD_cons_zero, List.getD_cons_succ, Bool.false_eq_true, if_false, List.contains_nil, Bool.false_and, normally_some, andThen_normal, andThen_exit, andThen_ret, atBlock_normal, atBlock_exit, atBlock_ret, lenV, sliceOf, arrayOf, fieldsOf, onBool_true, onBool_false, after_normal, after_exit, after_ret, normOf, norm, firstRegion, look, maskFrom, evBin, evIndexS, evLoad, evVar, evStore, evFieldAddr, nameOf, St.alloc, St.drop, killL, kill, killAll, killObs, killOb, upd, cells?, part, retag, retagL, putIn, refFree, refFreeL, isNew, isNewL, Ty.isAgg, splice, idsL, ids, idsLL, reach, depth, St.dropL, outOfCall_some, atEnd_normal, atEnd_ret, resultsV, resultV, allM_nil, allM_cons, resolve_int, resolve_bool, resolve_lit, resolve_sl, resolve_fp, resolve_emp, resolve_agg, resolve_tup, resolve_clo, resolve_own, Option.map_some, Option.map_none, List.length_cons, List.length_nil, List.length_map, ↓reduceIte, List.contains_cons, Bool.or_false, Bool.false_or, Bool.or_true, Bool.true_or, Nat.reduceBEq, beq_self_eq_true, List.map_cons, List.map_nil, List.filter_cons, List.filter_nil, List.flatMap_cons, List.flatMap_nil, Bool.not_true, Bool.not_false, and_self, and_true, true_and, List.getElem?_cons_zero, List.getElem?_cons_succ, List.getElem?_nil, List.drop_succ_cons, List.drop_zero, List.take_succ_cons, List.take_zero, List.drop_nil, List.take_nil, List.append_nil, Nat.reduceAdd, Nat.reduceSub, Nat.reduceMul, Nat.reduceEqDiff, Nat.reduceLeDiff, Nat.le_refl, Option.getD_none, Bool.and_true, Bool.true_and, Bool.and_false, Bool.and_self, Nat.lt_irrefl, Nat.reduceLT, Nat.zero_add, evRegion_still, evE, effOf, effMem, effStore, effCall, effVar, effLit, effMake, effApp, Eff.ap, evCall, lend, evAppend, evLit, evMake, evNil, freeze, onto, dropO, elemsV, sized, evCmp, eqT, eqG, minV, evUn, evField, evExtract, evIndexA, evIndexV, evSlice, optInt, fillV, placeOf, thawed, del, List.contains_append, Option.bind_none, Option.bind_some, Bool.and_eq_true, decide_true, decide_false, Bool.not_eq_true', List.take_length, List.range_succ, List.range_zero, Option.some.injEq, ne_eq, not_false_eq_true, not_true_eq_false, List.all_cons, List.all_nil, isNilSlice, List.getElem?_toArray, beqT, beqF, Bool.cond_true, Bool.cond_false, or_self, true_or, or_true, or_false, false_or, plain, plainL, ask_true, ask_false, pickV_true, pickV_false, resolve_ptr, cellsJ, junkOk, te, einl, inls]
          refine fin _ ?_
          simp [pushR, hz, push, hn3, hs, hw, hn1, encRun, merge]

end Go.AM.A
end

section
namespace Go.AM.A
open Go Go.Proofs

theorem joinR_le (rs : List Run) : (joinR rs).length ≤ rs.length := by
  have : ∀ (rs acc : List Run), (rs.foldl pushR acc).length ≤ acc.length + rs.length := by
    intro rs
    induction rs with
    | nil => intro acc; simp
    | cons r rs ih =>
      intro acc
      have h1 := ih (pushR acc r)
      have h2 := pushR_le acc r
      simp only [List.foldl_cons, List.length_cons]
      omega
  simpa [joinR] using this rs []

theorem c60 (t : Bool) (rs : List Run) (hn : rs.length ≤ 1000000000) : (orcω E X0).call 60 [.sl t (rs.map encRun)] = some (encRes (finished (joinR rs))) := by
  refine call_of rfl fn60 rfl ?_
  have hc := c76 false rs hn
  have hj := joinR_le rs
  have hl := c62 false (joinR rs) (by omega)
  by_cases h1 : (40 : Int) < (joinR rs).length
  · have hf : finished (joinR rs) = ([], 4) := by unfold finished; rw [if_pos (.inl (by omega))]
    simp only [Try.ntmps60, Try.results60, efc60, hc, h1, hf, encRes, Option.getD_some, List.replicate, List.cons_append, List.nil_append, den_seq, den_region, den_block, den_cond, den_skip, den_ret, den_exit, evOps, evOp, evPlain, evVal, evMem, wantedV, St.eval, St.put, St.get, constV, List.set, List.getD_cons_zero, List.getD_cons_succ, Bool.false_eq_true, if_false, List.contains_nil, Bool.false_and, normally_some, andThen_normal, andThen_exit, andThen_ret, atBlock_normal, atBlock_exit, atBlock_ret, lenV, sliceOf, arrayOf, fieldsOf, onBool_true, onBool_false, after_normal, after_exit, after_ret, normOf, norm, firstRegion, look, maskFrom, evBin, evIndexS, evLoad, evVar, evStore, evFieldAddr, nameOf, St.alloc, St.drop, killL, kill, killAll, killObs, killOb, upd, cells?, part, retag, retagL, putIn, refFree, refFreeL, isNew, isNewL, Ty.isAgg, splice, idsL, ids, idsLL, reach, depth, St.dropL, outOfCall_some, atEnd_normal, atEnd_ret, resultsV, resultV, allM_nil, allM_cons, resolve_int, resolve_bool, resolve_lit, resolve_sl, resolve_fp, resolve_emp, resolve_agg, resolve_tup, resolve_clo, resolve_own, Option.map_some, Option.map_none, List.length_cons, List.length_nil, List.length_map, ↓reduceIte, List.contains_cons, Bool.or_false, Bool.false_or, Bool.or_true, Bool.true_or, Nat.reduceBEq, beq_self_eq_true, List.map_cons, List.map_nil, List.filter_cons, List.filter_nil, List.flatMap_cons, List.flatMap_nil, Bool.not_true, Bool.not_false, and_self, and_true, true_and, List.getElem?_cons_zero, List.getElem?_cons_succ, List.getElem?_nil, List.drop_succ_cons, List.drop_zero, List.take_succ_cons, List.take_zero, List.drop_nil, List.take_nil, List.append_nil, Nat.reduceAdd, Nat.reduceSub, Nat.reduceMul, Nat.reduceEqDiff, Nat.reduceLeDiff, Nat.le_refl, Option.getD_none, Bool.and_true, Bool.true_and, Bool.and_false, Bool.and_self, Nat.lt_irrefl, Nat.reduceLT, Nat.zero_add, evRegion_still, evE, effOf, effMem, effStore, effCall, effVar, effLit, effMake, effApp, Eff.ap, evCall, lend, evAppend, evLit, evMake, evNil, freeze, onto, dropO, elemsV, sized, evCmp, eqT, eqG, minV, evUn, evField, evExtract, evIndexA, evIndexV, evSlice, optInt, fillV, placeOf, thawed, del, List.contains_append, Option.bind_none, Option.bind_some, Bool.and_eq_true, decide_true, decide_false, Bool.not_eq_true', List.take_length, List.range_succ, List.range_zero, Option.some.injEq, ne_eq, not_false_eq_true, not_true_eq_false, List.all_cons, List.all_nil, isNilSlice, List.getElem?_toArray, beqT, beqF, Bool.cond_true, Bool.cond_false, or_self, true_or, or_true, or_false, false_or, plain, plainL, ask_true, ask_false, pickV_true, pickV_false, resolve_ptr, cellsJ, junkOk, te, einl, inls]
  · by_cases h2 : 1000000 < ln (joinR rs)
    · have hf : finished (joinR rs) = ([], 4) := by unfold finished; rw [if_pos (.inr h2)]
      simp only [Try.ntmps60, Try.results60, efc60, hc, h1, hl, h2, hf, encRes, Option.getD_some, List.replicate, List.cons_append, List.nil_append, den_seq, den_region, den_block, den_cond, den_skip, den_ret, den_exit, evOps, evOp, evPlain, evVal, evMem, wantedV, St.eval, St.put, St.get, constV, List.set, List.getD_cons_zero, List.getD_cons_succ, Bool.false_eq_true, if_false, List.contains_nil, Bool.false_and, normally_some, andThen_normal, andThen_exit, andThen_ret, atBlock_normal, atBlock_exit, atBlock_ret, lenV, sliceOf, arrayOf, fieldsOf, onBool_true, onBool_false, after_normal, after_exit, after_ret, normOf, norm, firstRegion, look, maskFrom, evBin, evIndexS, evLoad, evVar, evStore, evFieldAddr, nameOf, St.alloc, St.drop, killL, kill, killAll, killObs, killOb, upd, cells?, part, retag, retagL, putIn, refFree, refFreeL, isNew, isNewL, Ty.isAgg, splice, idsL, ids, idsLL, reach, depth, St.dropL, outOfCall_some, atEnd_normal, atEnd_ret, resultsV, resultV, allM_nil, allM_cons, resolve_int, resolve_bool, resolve_lit, resolve_sl, resolve_fp, resolve_emp, resolve_agg, resolve_tup, resolve_clo, resolve_own, Option.map_some, Option.map_none, List.length_cons, List.length_nil, List.length_map, ↓reduceIte, List.contains_cons, Bool.or_false, Bool.false_or, Bool.or_true, Bool.true_or, Nat.reduceBEq, beq_self_eq_true, List.map_cons, List.map_nil, List.filter_cons, List.filter_nil, List.flatMap_cons, List.flatMap_nil, Bool.not_true, Bool.not_false, and_self, and_true, true_and, List.getElem?_cons_zero, List.getElem?_cons_succ, List.getElem?_nil, List.drop_succ_cons, List.drop_zero, List.take_succ_cons, List.take_zero, List.drop_nil, List.take_nil, List.append_nil, Nat.reduceAdd, Nat.reduceSub, Nat.reduceMul, Nat.reduceEqDiff, Nat.reduceLeDiff, Nat.le_refl, Option.getD_none, Bool.and_true, Bool.true_and, Bool.and_false, Bool.and_self, Nat.lt_irrefl, Nat.reduceLT, Nat.zero_add, evRegion_still, evE, effOf, effMem, effStore, effCall, effVar, effLit, effMake, effApp, Eff.ap, evCall, lend, evAppend, evLit, evMake, evNil, freeze, onto, dropO, elemsV, sized, evCmp, eqT, eqG, minV, evUn, evField, evExtract, evIndexA, evIndexV, evSlice, optInt, fillV, placeOf, thawed, del, List.contains_append, Option.bind_none, Option.bind_some, Bool.and_eq_true, decide_true, decide_false, Bool.not_eq_true', List.take_length, List.range_succ, List.range_zero, Option.some.injEq, ne_eq, not_false_eq_true, not_true_eq_false, List.all_cons, List.all_nil, isNilSlice, List.getElem?_toArray, beqT, beqF, Bool.cond_true, Bool.cond_false, or_self, true_or, or_true, or_false, false_or, plain, plainL, ask_true, ask_false, pickV_true, pickV_false, resolve_ptr, cellsJ, junkOk, te, einl, inls]
    · have hf : finished (joinR rs) = (joinR rs, 0) := by unfold finished; rw [if_neg (by omega)]
      simp only [Try.ntmps60, Try.results60, efc60, hc, h1, hl, h2, hf, encRes, Option.getD_some, List.replicate, List.cons_append, List.nil_append, den_seq, den_region, den_block, den_cond, den_skip, den_ret, den_exit, evOps, evOp, evPlain, evVal, evMem, wantedV, St.eval, St.put, St.get, constV, List.set, List.getD_cons_zero, List.getD_cons_succ, Bool.false_eq_true, if_false, List.contains_nil, Bool.false_and, normally_some, andThen_normal, andThen_exit, andThen_ret, atBlock_normal, atBlock_exit, atBlock_ret, lenV, sliceOf, arrayOf, fieldsOf, onBool_true, onBool_false, after_normal, after_exit, after_ret, normOf, norm, firstRegion, look, maskFrom, evBin, evIndexS, evLoad, evVar, evStore, evFieldAddr, nameOf, St.alloc, St.drop, killL, kill, killAll, killObs, killOb, upd, cells?, part, retag, retagL, putIn, refFree, refFreeL, isNew, isNewL, Ty.isAgg, splice, idsL, ids, idsLL, reach, depth, St.dropL, outOfCall_some, atEnd_normal, atEnd_ret, resultsV, resultV, allM_nil, allM_cons, resolve_int, resolve_bool, resolve_lit, resolve_sl, resolve_fp, resolve_emp, resolve_agg, resolve_tup, resolve_clo, resolve_own, Option.map_some, Option.map_none, List.length_cons, List.length_nil, List.length_map, ↓reduceIte, List.contains_cons, Bool.or_false, Bool.false_or, Bool.or_true, Bool.true_or, Nat.reduceBEq, beq_self_eq_true, List.map_cons, List.map_nil, List.filter_cons, List.filter_nil, List.flatMap_cons, List.flatMap_nil, Bool.not_true, Bool.not_false, and_self, and_true, true_and, List.getElem?_cons_zero, List.getElem?_cons_succ, List.getElem?_nil, List.drop_succ_cons, List.drop_zero, List.take_succ_cons, List.take_zero, List.drop_nil, List.take_nil, List.append_nil, Nat.reduceAdd, Nat.reduceSub, Nat.reduceMul, Nat.reduceEqDiff, Nat.reduceLeDiff, Nat.le_refl, Option.getD_none, Bool.and_true, Bool.true_and, Bool.and_false, Bool.and_self, Nat.lt_irrefl, Nat.reduceLT, Nat.zero_add, evRegion_still, evE, effOf, effMem, effStore, effCall, effVar, effLit, effMake, effApp, Eff.ap, evCall, lend, evAppend, evLit, evMake, evNil, freeze, onto, dropO, elemsV, sized, evCmp, eqT, eqG, minV, evUn, evField, evExtract, evIndexA, evIndexV, evSlice, optInt, fillV, placeOf, thawed, del, List.contains_append, Option.bind_none, Option.bind_some, Bool.and_eq_true, decide_true, decide_false, Bool.not_eq_true', List.take_length, List.range_succ, List.range_zero, Option.some.injEq, ne_eq, not_false_eq_true, not_true_eq_false, List.all_cons, List.all_nil, isNilSlice, List.getElem?_toArray, beqT, beqF, Bool.cond_true, Bool.cond_false, or_self, true_or, or_true, or_false, false_or, plain, plainL, ask_true, ask_false, pickV_true, pickV_false, resolve_ptr, cellsJ, junkOk, te, einl, inls]

theorem valid_all {rs : List Run} (h : validate rs = 0) : rs.all wellB = true := by
  unfold validate at h
  split at h
  · omega
  · split at h
    · assumption
    · omega

theorem well_pos {r : Run} (h : wellB r = true) : r.len ≠ 0 := by
  simp [wellB, inB] at h
  omega

theorem join_eq {rs : List Run} (h : validate rs = 0) : joinR rs = joinedL rs := by
  have := valid_all h
  unfold joinR joinedL
  have key : ∀ (rs acc : List Run), rs.all wellB = true → rs.foldl pushR acc = rs.foldl push acc := by
    intro rs
    induction rs with
    | nil => intro acc _; rfl
    | cons r rs ih =>
      intro acc h
      simp only [List.all_cons, Bool.and_eq_true] at h
      simp only [List.foldl_cons]
      rw [ih _ h.2]
      congr 1
      unfold pushR
      rw [if_neg (well_pos h.1)]
  exact key rs [] this

theorem c20 (t : Bool) (rs : List Run) (hn : rs.length ≤ 1000000000) : (orcω E X0).call 20 [.sl t (rs.map encRun)] = some (encRes (normal rs)) := by
  refine call_of rfl fn20 rfl ?_
  have hc := c24 false rs hn
  have hf := c60 false rs hn
  by_cases h : validate rs = 0
  · have h' : (validate rs != 0) = false := by simp [h]
    have hr : normal rs = finished (joinR rs) := by unfold normal; rw [if_pos h, join_eq h]
    rw [hr]
    simp only [Try.ntmps20, Try.results20, efc20, hc, h', hf, encRes, Option.getD_some, List.replicate, List.cons_append, List.nil_append, den_seq, den_region, den_block, den_cond, den_skip, den_ret, den_exit, evOps, evOp, evPlain, evVal, evMem, wantedV, St.eval, St.put, St.get, constV, List.set, List.getD_cons_zero, List.getD_cons_succ, Bool.false_eq_true, if_false, List.contains_nil, Bool.false_and, normally_some, andThen_normal, andThen_exit, andThen_ret, atBlock_normal, atBlock_exit, atBlock_ret, lenV, sliceOf, arrayOf, fieldsOf, onBool_true, onBool_false, after_normal, after_exit, after_ret, normOf, norm, firstRegion, look, maskFrom, evBin, evIndexS, evLoad, evVar, evStore, evFieldAddr, nameOf, St.alloc, St.drop, killL, kill, killAll, killObs, killOb, upd, cells?, part, retag, retagL, putIn, refFree, refFreeL, isNew, isNewL, Ty.isAgg, splice, idsL, ids, idsLL, reach, depth, St.dropL, outOfCall_some, atEnd_normal, atEnd_ret, resultsV, resultV, allM_nil, allM_cons, resolve_int, resolve_bool, resolve_lit, resolve_sl, resolve_fp, resolve_emp, resolve_agg, resolve_tup, resolve_clo, resolve_own, Option.map_some, Option.map_none, List.length_cons, List.length_nil, List.length_map, ↓reduceIte, List.contains_cons, Bool.or_false, Bool.false_or, Bool.or_true, Bool.true_or, Nat.reduceBEq, beq_self_eq_true, List.map_cons, List.map_nil, List.filter_cons, List.filter_nil, List.flatMap_cons, List.flatMap_nil, Bool.not_true, Bool.not_false, and_self, and_true, true_and, List.getElem?_cons_zero, List.getElem?_cons_succ, List.getElem?_nil, List.drop_succ_cons, List.drop_zero, List.take_succ_cons, List.take_zero, List.drop_nil, List.take_nil, List.append_nil, Nat.reduceAdd, Nat.reduceSub, Nat.reduceMul, Nat.reduceEqDiff, Nat.reduceLeDiff, Nat.le_refl, Option.getD_none, Bool.and_true, Bool.true_and, Bool.and_false, Bool.and_self, Nat.lt_irrefl, Nat.reduceLT, Nat.zero_add, evRegion_still, evE, effOf, effMem, effStore, effCall, effVar, effLit, effMake, effApp, Eff.ap, evCall, lend, evAppend, evLit, evMake, evNil, freeze, onto, dropO, elemsV, sized, evCmp, eqT, eqG, minV, evUn, evField, evExtract, evIndexA, evIndexV, evSlice, optInt, fillV, placeOf, thawed, del, List.contains_append, Option.bind_none, Option.bind_some, Bool.and_eq_true, decide_true, decide_false, Bool.not_eq_true', List.take_length, List.range_succ, List.range_zero, Option.some.injEq, ne_eq, not_false_eq_true, not_true_eq_false, List.all_cons, List.all_nil, isNilSlice, List.getElem?_toArray, beqT, beqF, Bool.cond_true, Bool.cond_false, or_self, true_or, or_true, or_false, false_or, plain, plainL, ask_true, ask_false, pickV_true, pickV_false, resolve_ptr, cellsJ, junkOk, te, einl, inls]
  · have h' : (validate rs != 0) = true := by simp [h]
    have hr : normal rs = ([], validate rs) := by unfold normal; rw [if_neg h]
    rw [hr]
    simp only [Try.ntmps20, Try.results20, efc20, hc, h', encRes, Option.getD_some, List.replicate, List.cons_append, List.nil_append, den_seq, den_region, den_block, den_cond, den_skip, den_ret, den_exit, evOps, evOp, evPlain, evVal, evMem, wantedV, St.eval, St.put, St.get, constV, List.set, List.getD_cons_zero, List.getD_cons_succ, Bool.false_eq_true, if_false, List.contains_nil, Bool.false_and, normally_some, andThen_normal, andThen_exit, andThen_ret, atBlock_normal, atBlock_exit, atBlock_ret, lenV, sliceOf, arrayOf, fieldsOf, onBool_true, onBool_false, after_normal, after_exit, after_ret, normOf, norm, firstRegion, look, maskFrom, evBin, evIndexS, evLoad, evVar, evStore, evFieldAddr, nameOf, St.alloc, St.drop, killL, kill, killAll, killObs, killOb, upd, cells?, part, retag, retagL, putIn, refFree, refFreeL, isNew, isNewL, Ty.isAgg, splice, idsL, ids, idsLL, reach, depth, St.dropL, outOfCall_some, atEnd_normal, atEnd_ret, resultsV, resultV, allM_nil, allM_cons, resolve_int, resolve_bool, resolve_lit, resolve_sl, resolve_fp, resolve_emp, resolve_agg, resolve_tup, resolve_clo, resolve_own, Option.map_some, Option.map_none, List.length_cons, List.length_nil, List.length_map, ↓reduceIte, List.contains_cons, Bool.or_false, Bool.false_or, Bool.or_true, Bool.true_or, Nat.reduceBEq, beq_self_eq_true, List.map_cons, List.map_nil, List.filter_cons, List.filter_nil, List.flatMap_cons, List.flatMap_nil, Bool.not_true, Bool.not_false, and_self, and_true, true_and, List.getElem?_cons_zero, List.getElem?_cons_succ, List.getElem?_nil, List.drop_succ_cons, List.drop_zero, List.take_succ_cons, List.take_zero, List.drop_nil, List.take_nil, List.append_nil, Nat.reduceAdd, Nat.reduceSub, Nat.reduceMul, Nat.reduceEqDiff, Nat.reduceLeDiff, Nat.le_refl, Option.getD_none, Bool.and_true, Bool.true_and, Bool.and_false, Bool.and_self, Nat.lt_irrefl, Nat.reduceLT, Nat.zero_add, evRegion_still, evE, effOf, effMem, effStore, effCall, effVar, effLit, effMake, effApp, Eff.ap, evCall, lend, evAppend, evLit, evMake, evNil, freeze, onto, dropO, elemsV, sized, evCmp, eqT, eqG, minV, evUn, evField, evExtract, evIndexA, evIndexV, evSlice, optInt, fillV, placeOf, thawed, del, List.contains_append, Option.bind_none, Option.bind_some, Bool.and_eq_true, decide_true, decide_false, Bool.not_eq_true', List.take_length, List.range_succ, List.range_zero, Option.some.injEq, ne_eq, not_false_eq_true, not_true_eq_false, List.all_cons, List.all_nil, isNilSlice, List.getElem?_toArray, beqT, beqF, Bool.cond_true, Bool.cond_false, or_self, true_or, or_true, or_false, false_or, plain, plainL, ask_true, ask_false, pickV_true, pickV_false, resolve_ptr, cellsJ, junkOk, te, einl, inls]

/-- What spoil does to an object. -/
def spoilt (rs : List Run) (k : Nat) : List Run := (rs.take k).map (fun r => { r with len := -1 }) ++ rs.drop k

theorem spoilt_get {rs : List Run} {k : Nat} {r : Run} (h : rs[k]? = some r) : (spoilt rs k)[k]? = some r := by
  have hk : k < rs.length := (List.getElem?_eq_some_iff.1 h).1
  unfold spoilt
  rw [List.getElem?_append_right (by simp; omega)]
  simp only [List.length_map, List.length_take]
  rw [show k - min k rs.length = 0 by omega]
  simpa using h

theorem spoilt_set {rs : List Run} {k : Nat} {r : Run} (h : rs[k]? = some r) : (spoilt rs k).set k { r with len := -1 } = spoilt rs (k + 1) := by
  have hk : k < rs.length := (List.getElem?_eq_some_iff.1 h).1
  unfold spoilt
  rw [List.set_append_right _ _ (by simp; omega)]
  simp only [List.length_map, List.length_take]
  rw [show k - min k rs.length = 0 by omega, List.drop_eq_getElem_cons hk, List.set_cons_zero, List.take_add_one, h]
  have : rs[k] = r := by rw [List.getElem?_eq_getElem hk] at h; exact Option.some.inj h
  simp

theorem c26 (b id : Nat) (outer : List (List V)) (objs : List (Nat × Ob)) (rs : List Run) (hn : rs.length ≤ 1000000000) (app : Bool) (hl : look objs id = some { es := 4, flat := true, t := true, app := app, elems := rs.map encRun })
    (hu : upd objs id { es := 4, flat := true, t := true, app := app, elems := rs.map encRun } = objs) :
    (orcω E X0).inl b 26 [.own id 0 rs.length] { slots := [], outer := outer, objs := objs } =
      some (.tup [], { slots := [.own id 0 rs.length, .junk, .int .i64 rs.length, .int .i64 rs.length, .own id 0 rs.length, .int .i64 rs.length, .bool false, .junk, .junk, .junk, .junk, .junk, .junk], outer := outer, objs := upd objs id { es := 4, flat := true, t := true, app := app, elems := (spoilt rs rs.length).map encRun } }) := by
  refine inl_of rfl fn26 rfl ?_
  simp (maxSteps := 1000000) (implicitDefEqProofs := false) only [Try.ntmps26, Try.results26, efc26, fc26, ss, List.replicate, evOp, evPlain, evVal, evMem, St.eval, St.put, St.get, constV, List.set, lenV, sliceOf, arrayOf, fieldsOf, normOf, norm, firstRegion, look, maskFrom, evBin, evIndexS, evLoad, evVar, evStore, evFieldAddr, nameOf, St.alloc, St.drop, killL, kill, killAll, killObs, killOb, upd, cells?, part, retag, retagL, putIn, refFree, refFreeL, isNew, isNewL, Ty.isAgg, splice, idsL, ids, idsLL, reach, depth, St.dropL, resultsV, resultV, ↓reduceIte, Nat.reduceBEq, Nat.reduceAdd, Nat.reduceSub, Nat.reduceMul, Nat.reduceEqDiff, Nat.reduceLeDiff, Nat.reduceLT, effOf, effMem, effStore, effCall, effVar, effLit, effMake, effApp, Eff.ap, lend, evLit, evMake, evNil, freeze, onto, dropO, elemsV, sized, evCmp, eqT, eqG, minV, evUn, evField, evExtract, evIndexA, evIndexV, evSlice, optInt, fillV, placeOf, thawed, del, isNilSlice, plain, plainL, cellsJ, junkOk, St.with, setSlots, setObs, wantedD, seqOf, noRange, setAll, Array.size, te, einl, inls]
  generalize hr : loopAt _ _ _ _ _ _ = r; revert r
  refine loop_inv (ι := { k : Nat // k ≤ rs.length }) (fun k => [(2, .int .i64 k.1)]) (fun k => [(id, { es := 4, flat := true, t := true, app := app, elems := (spoilt rs k.1).map encRun })]) (fun k => rs.length - k.1) ⟨0, Nat.zero_le _⟩ (by simp (maxSteps := 1000000) (implicitDefEqProofs := false) only [spoilt, hu, ss, List.replicate, evOp, evPlain, evVal, evMem, St.eval, St.put, St.get, constV, List.set, lenV, sliceOf, arrayOf, fieldsOf, normOf, norm, firstRegion, look, maskFrom, evBin, evIndexS, evLoad, evVar, evStore, evFieldAddr, nameOf, St.alloc, St.drop, killL, kill, killAll, killObs, killOb, upd, cells?, part, retag, retagL, putIn, refFree, refFreeL, isNew, isNewL, Ty.isAgg, splice, idsL, ids, idsLL, reach, depth, St.dropL, resultsV, resultV, ↓reduceIte, Nat.reduceBEq, Nat.reduceAdd, Nat.reduceSub, Nat.reduceMul, Nat.reduceEqDiff, Nat.reduceLeDiff, Nat.reduceLT, effOf, effMem, effStore, effCall, effVar, effLit, effMake, effApp, Eff.ap, lend, evLit, evMake, evNil, freeze, onto, dropO, elemsV, sized, evCmp, eqT, eqG, minV, evUn, evField, evExtract, evIndexA, evIndexV, evSlice, optInt, fillV, placeOf, thawed, del, isNilSlice, plain, plainL, cellsJ, junkOk, St.with, setSlots, setObs, wantedD, seqOf, noRange, setAll, Array.size, te, einl, inls]) ?_
  rintro ⟨k, hk⟩
  rcases Nat.lt_or_ge k rs.length with hlt0 | hge
  · have hlt : (k : Int) < rs.length := by omega
    obtain ⟨r, hr⟩ : ∃ r, rs[k]? = some r := ⟨_, List.getElem?_eq_getElem hlt0⟩
    have hget := spoilt_get hr
    have hw : IntKind.i64.wrap ((k : Int) + 1) = ((k + 1 : Nat) : Int) := by rw [wrap_in (by omega)]; simp
    simp (maxSteps := 1000000) (implicitDefEqProofs := false) only [look_upd_same, upd_upd, hlt, Int.natCast_nonneg, Int.toNat_natCast, List.getElem?_map, hget, encRun, ss, List.replicate, evOp, evPlain, evVal, evMem, St.eval, St.put, St.get, constV, List.set, lenV, sliceOf, arrayOf, fieldsOf, normOf, norm, firstRegion, look, maskFrom, evBin, evIndexS, evLoad, evVar, evStore, evFieldAddr, nameOf, St.alloc, St.drop, killL, kill, killAll, killObs, killOb, upd, cells?, part, retag, retagL, putIn, refFree, refFreeL, isNew, isNewL, Ty.isAgg, splice, idsL, ids, idsLL, reach, depth, St.dropL, resultsV, resultV, ↓reduceIte, Nat.reduceBEq, Nat.reduceAdd, Nat.reduceSub, Nat.reduceMul, Nat.reduceEqDiff, Nat.reduceLeDiff, Nat.reduceLT, effOf, effMem, effStore, effCall, effVar, effLit, effMake, effApp, Eff.ap, lend, evLit, evMake, evNil, freeze, onto, dropO, elemsV, sized, evCmp, eqT, eqG, minV, evUn, evField, evExtract, evIndexA, evIndexV, evSlice, optInt, fillV, placeOf, thawed, del, isNilSlice, plain, plainL, cellsJ, junkOk, St.with, setSlots, setObs, wantedD, seqOf, noRange, setAll, Array.size, te, einl, inls]
    refine ⟨⟨k + 1, hlt0⟩, ?_, by dsimp only; omega⟩
    simp [hw, ← spoilt_set hr, List.map_set, encRun]
  · obtain rfl : k = rs.length := by omega
    simp (maxSteps := 1000000) (implicitDefEqProofs := false) only [Int.lt_irrefl, Try.ntmps26, Try.results26, efc26, fc26, ss, List.replicate, evOp, evPlain, evVal, evMem, St.eval, St.put, St.get, constV, List.set, lenV, sliceOf, arrayOf, fieldsOf, normOf, norm, firstRegion, look, maskFrom, evBin, evIndexS, evLoad, evVar, evStore, evFieldAddr, nameOf, St.alloc, St.drop, killL, kill, killAll, killObs, killOb, upd, cells?, part, retag, retagL, putIn, refFree, refFreeL, isNew, isNewL, Ty.isAgg, splice, idsL, ids, idsLL, reach, depth, St.dropL, resultsV, resultV, ↓reduceIte, Nat.reduceBEq, Nat.reduceAdd, Nat.reduceSub, Nat.reduceMul, Nat.reduceEqDiff, Nat.reduceLeDiff, Nat.reduceLT, effOf, effMem, effStore, effCall, effVar, effLit, effMake, effApp, Eff.ap, lend, evLit, evMake, evNil, freeze, onto, dropO, elemsV, sized, evCmp, eqT, eqG, minV, evUn, evField, evExtract, evIndexA, evIndexV, evSlice, optInt, fillV, placeOf, thawed, del, isNilSlice, plain, plainL, cellsJ, junkOk, St.with, setSlots, setObs, wantedD, seqOf, noRange, setAll, Array.size, te, einl, inls]

end Go.AM.A
end

section
/-
Bands as lists of marks, place by place: what joining, cutting and comparing runs mean.
-/
namespace Go.AM.A
open Go Go.Proofs

structure Mk where
  thick : Int
  shade : Int
  flaw : Int
  deriving DecidableEq

def Run.mk' (r : Run) : Mk := ⟨r.thick, r.shade, r.flaw⟩
def runOf (n : Int) (m : Mk) : Run := ⟨n, m.thick, m.shade, m.flaw⟩
def expand (rs : List Run) : List Mk := rs.flatMap fun r => List.replicate r.len.toNat r.mk'

theorem same_iff (r s : Run) : same r s = decide (r.mk' = s.mk') := by
  cases r; cases s
  rw [Bool.eq_iff_iff]
  simp [same, Run.mk']

theorem expand_nil : expand [] = [] := rfl
theorem expand_cons (r : Run) (rs : List Run) : expand (r :: rs) = List.replicate r.len.toNat r.mk' ++ expand rs := rfl
theorem expand_app (rs qs : List Run) : expand (rs ++ qs) = expand rs ++ expand qs := by simp [expand]

def pushM (acc : List Run) (m : Mk) : List Run := push acc (runOf 1 m)
def rle (ms : List Mk) : List Run := ms.foldl pushM []

theorem mk_runOf (n : Int) (m : Mk) : (runOf n m).mk' = m := rfl
theorem runOf_mk (r : Run) : runOf r.len r.mk' = r := rfl

theorem push_nil (r : Run) : push [] r = [r] := rfl
theorem push_same (l : List Run) (s r : Run) (h : s.mk' = r.mk') : push (l ++ [s]) r = l ++ [merge s r] := by
  unfold push
  simp [same_iff, h, List.set_append]
theorem push_other (l : List Run) (s r : Run) (h : s.mk' ≠ r.mk') : push (l ++ [s]) r = l ++ [s, r] := by
  unfold push
  simp [same_iff, h]

/-- All lengths are from 1 to B. -/
def Lens (B : Int) (rs : List Run) : Prop := ∀ r ∈ rs, 1 ≤ r.len ∧ r.len ≤ B

theorem snoc_cases {α : Type} (l : List α) : l = [] ∨ ∃ i x, l = i ++ [x] := by
  rcases List.eq_nil_or_concat l with rfl | ⟨i, x, rfl⟩
  · exact .inl rfl
  · exact .inr ⟨i, x, by simp⟩

theorem push_lens {B C : Int} {acc : List Run} {r : Run} (h : Lens B acc) (hr : 1 ≤ r.len) (hB : 0 ≤ B) (hC : B + r.len ≤ C) (hm : C ≤ 1000000000000) : Lens C (push acc r) := by
  rcases snoc_cases acc with rfl | ⟨i, s, rfl⟩
  · rw [push_nil]
    intro q hq
    simp only [List.mem_singleton] at hq
    subst hq
    exact ⟨hr, by omega⟩
  · have hs := h s (by simp)
    by_cases e : s.mk' = r.mk'
    · rw [push_same _ _ _ e]
      intro q hq
      rcases List.mem_append.1 hq with hq | hq
      · have := h q (by simp [hq]); omega
      · simp only [List.mem_singleton] at hq
        subst hq
        have : IntKind.i64.wrap (s.len + r.len) = s.len + r.len := wrap_in (by omega)
        simp only [merge, this]
        omega
    · rw [push_other _ _ _ e]
      intro q hq
      simp only [List.mem_append, List.mem_cons, List.not_mem_nil, or_false] at hq
      rcases hq with hq | rfl | rfl
      · have := h q (by simp [hq]); omega
      · omega
      · omega

theorem push_expand {B : Int} {acc : List Run} {r : Run} (h : Lens B acc) (hr : 1 ≤ r.len) (hm : B + r.len ≤ 1000000000000) : expand (push acc r) = expand acc ++ List.replicate r.len.toNat r.mk' := by
  rcases snoc_cases acc with rfl | ⟨i, s, rfl⟩
  · simp [push_nil, expand]
  · have hs := h s (by simp)
    by_cases e : s.mk' = r.mk'
    · rw [push_same _ _ _ e]
      have hw : IntKind.i64.wrap (s.len + r.len) = s.len + r.len := wrap_in (by omega)
      have : (merge s r).mk' = s.mk' := rfl
      simp only [expand_app, expand_cons, expand_nil, List.append_nil, this, List.append_assoc]
      congr 1
      rw [← e, List.replicate_append_replicate]
      congr 1
      simp only [merge, hw]
      omega
    · rw [push_other _ _ _ e]
      simp [expand_app, expand_cons, expand_nil]

/-- Neighbors differ. -/
def Normal : List Run → Prop
  | [] => True
  | [_] => True
  | r :: s :: l => r.mk' ≠ s.mk' ∧ Normal (s :: l)

theorem normal_snoc : ∀ (l : List Run) (s r : Run), Normal (l ++ [s]) → s.mk' ≠ r.mk' → Normal (l ++ [s, r])
  | [], s, r, _, h => ⟨h, trivial⟩
  | [x], s, r, hn, h => ⟨hn.1, h, trivial⟩
  | x :: y :: l, s, r, hn, h => ⟨hn.1, normal_snoc (y :: l) s r hn.2 h⟩

theorem normal_last : ∀ (l : List Run) (s r : Run), Normal (l ++ [s]) → s.mk' = r.mk' → Normal (l ++ [r])
  | [], _, _, _, _ => trivial
  | [x], s, r, hn, h => ⟨by rw [← h]; exact hn.1, trivial⟩
  | x :: y :: l, s, r, hn, h => ⟨hn.1, normal_last (y :: l) s r hn.2 h⟩

theorem push_normal {acc : List Run} {r : Run} (h : Normal acc) : Normal (push acc r) := by
  rcases snoc_cases acc with rfl | ⟨i, s, rfl⟩
  · exact trivial
  · by_cases e : s.mk' = r.mk'
    · rw [push_same _ _ _ e]
      exact normal_last i s _ h rfl
    · rw [push_other _ _ _ e]
      exact normal_snoc i s r h e

theorem snoc_ind {α : Type} {P : List α → Prop} (h0 : P []) (h1 : ∀ l x, P l → P (l ++ [x])) (l : List α) : P l := by
  have : ∀ (n : Nat) (l : List α), l.length = n → P l := by
    intro n
    induction n with
    | zero => intro l hl; rw [List.eq_nil_of_length_eq_zero hl]; exact h0
    | succ n ih =>
      intro l hl
      rcases snoc_cases l with rfl | ⟨i, x, rfl⟩
      · simp at hl
      · exact h1 i x (ih i (by simpa using hl))
  exact this l.length l rfl

theorem rle_snoc (ms : List Mk) (m : Mk) : rle (ms ++ [m]) = push (rle ms) (runOf 1 m) := by simp [rle, pushM]

theorem rle_ok (ms : List Mk) (h : ms.length ≤ 100000000000) : Lens ms.length (rle ms) ∧ expand (rle ms) = ms ∧ Normal (rle ms) := by
  induction ms using snoc_ind with
  | h0 => exact ⟨fun r hr => by simp [rle] at hr, rfl, trivial⟩
  | h1 ms m ih =>
    simp only [List.length_append, List.length_cons, List.length_nil] at h ⊢
    obtain ⟨h1, h2, h3⟩ := ih (by omega)
    rw [rle_snoc]
    refine ⟨push_lens h1 (by simp [runOf]) (by omega) (by simp [runOf]) (by omega), ?_, push_normal h3⟩
    rw [push_expand h1 (by simp [runOf]) (by simp [runOf]; omega), h2]
    rfl

theorem push_rep (m : Mk) : ∀ (n : Nat) {acc : List Run} {B : Int}, Lens B acc → 0 ≤ B → B + (n + 1 : Nat) ≤ 100000000000 → (List.replicate (n + 1) m).foldl pushM acc = push acc (runOf ((n + 1 : Nat) : Int) m)
  | 0, acc, B, _, _, _ => rfl
  | n + 1, acc, B, h, hB, hn => by
    rw [List.replicate_succ', List.foldl_append, push_rep m n h hB (by omega)]
    simp only [List.foldl_cons, List.foldl_nil, pushM]
    rcases snoc_cases acc with rfl | ⟨i, s, rfl⟩
    · rw [push_nil, push_nil]
      rw [show [runOf ((n + 1 : Nat) : Int) m] = [] ++ [runOf ((n + 1 : Nat) : Int) m] from rfl, push_same _ _ _ (show (runOf ((n + 1 : Nat) : Int) m).mk' = (runOf 1 m).mk' from rfl)]
      have : IntKind.i64.wrap (((n + 1 : Nat) : Int) + 1) = ((n + 1 + 1 : Nat) : Int) := by rw [wrap_in (by omega)]; omega
      simp only [Int.natCast_add, Int.natCast_one] at this
      simp [merge, runOf, this]
    · have hs := h s (by simp)
      by_cases e : s.mk' = m
      · rw [push_same _ _ _ (by simpa [mk_runOf] using e), push_same _ _ _ (show (merge s (runOf ((n + 1 : Nat) : Int) m)).mk' = (runOf 1 m).mk' from e), push_same _ _ _ (by simpa [mk_runOf] using e)]
        have h1 : IntKind.i64.wrap (s.len + ((n + 1 : Nat) : Int)) = s.len + ((n + 1 : Nat) : Int) := wrap_in (by omega)
        have h2 : IntKind.i64.wrap (s.len + ((n + 1 : Nat) : Int) + 1) = s.len + ((n + 1 : Nat) : Int) + 1 := wrap_in (by omega)
        have h3 : IntKind.i64.wrap (s.len + ((n + 1 + 1 : Nat) : Int)) = s.len + ((n + 1 : Nat) : Int) + 1 := by rw [wrap_in (by omega)]; omega
        simp [merge, runOf] at h1 h2 h3 ⊢
        rw [h1, h2, h3]
      · have e1 : s.mk' ≠ (runOf ((n + 1 : Nat) : Int) m).mk' := by simpa [mk_runOf] using e
        have e2 : s.mk' ≠ (runOf ((n + 1 + 1 : Nat) : Int) m).mk' := by simpa [mk_runOf] using e
        rw [push_other _ _ _ e1, push_other _ _ _ e2]
        rw [show i ++ [s, runOf ((n + 1 : Nat) : Int) m] = (i ++ [s]) ++ [runOf ((n + 1 : Nat) : Int) m] by simp, push_same _ _ _ (show (runOf ((n + 1 : Nat) : Int) m).mk' = (runOf 1 m).mk' from rfl)]
        have : IntKind.i64.wrap (((n + 1 : Nat) : Int) + 1) = ((n + 1 + 1 : Nat) : Int) := by rw [wrap_in (by omega)]; omega
        simp only [Int.natCast_add, Int.natCast_one] at this
        simp [merge, runOf, this]

def total (rs : List Run) : Int := (rs.map Run.len).sum

theorem total_cons (r : Run) (rs : List Run) : total (r :: rs) = r.len + total rs := by simp [total]
theorem total_app (rs qs : List Run) : total (rs ++ qs) = total rs + total qs := by simp [total]
theorem total_nil : total [] = 0 := rfl

theorem total_nonneg {B : Int} {rs : List Run} (h : Lens B rs) : 0 ≤ total rs := by
  induction rs with
  | nil => exact Int.le_refl _
  | cons r rs ih =>
    have := ih fun q hq => h q (List.mem_cons_of_mem _ hq)
    have := h r List.mem_cons_self
    rw [total_cons]; omega

theorem expand_length {B : Int} {rs : List Run} (h : Lens B rs) : ((expand rs).length : Int) = total rs := by
  induction rs with
  | nil => rfl
  | cons r rs ih =>
    have h1 := ih fun q hq => h q (List.mem_cons_of_mem _ hq)
    have h2 := h r List.mem_cons_self
    rw [expand_cons, List.length_append, List.length_replicate, total_cons]
    omega

theorem joined_acc {rs : List Run} : ∀ {acc : List Run} {B : Int}, Lens B acc → 0 ≤ B → (∀ r ∈ rs, 1 ≤ r.len) → B + total rs ≤ 10000000000 → rs.foldl push acc = (expand rs).foldl pushM acc := by
  induction rs with
  | nil => intro acc B _ _ _ _; rfl
  | cons r rs ih =>
    intro acc B h hB hr ht
    have h1 := hr r List.mem_cons_self
    rw [total_cons] at ht
    have h0 : 0 ≤ total rs := total_nonneg (B := total rs + 10000000000) (fun q hq => ⟨hr q (List.mem_cons_of_mem _ hq), by
      have : ∀ (l : List Run) (q : Run), (∀ r ∈ l, 1 ≤ r.len) → q ∈ l → q.len ≤ total l := by
        intro l
        induction l with
        | nil => intro q _ hq; cases hq
        | cons x l ih =>
          intro q hl hq
          have hx := hl x List.mem_cons_self
          have hnn : 0 ≤ total l := by
            clear ih hq
            induction l with
            | nil => exact Int.le_refl _
            | cons y l ih2 =>
              have := ih2 fun z hz => hl z (by rcases List.mem_cons.1 hz with rfl | hz; exact List.mem_cons_self; exact List.mem_cons_of_mem _ (List.mem_cons_of_mem _ hz))
              have := hl y (List.mem_cons_of_mem _ List.mem_cons_self)
              rw [total_cons]; omega
          rw [total_cons]
          rcases List.mem_cons.1 hq with rfl | hq
          · omega
          · have := ih q (fun z hz => hl z (List.mem_cons_of_mem _ hz)) hq; omega
      have := this rs q (fun z hz => hr z (List.mem_cons_of_mem _ hz)) hq
      omega⟩)
    rw [List.foldl_cons, expand_cons, List.foldl_append]
    obtain ⟨n, hn⟩ : ∃ n : Nat, r.len = ((n + 1 : Nat) : Int) := ⟨r.len.toNat - 1, by omega⟩
    have hrn : r.len.toNat = n + 1 := by omega
    rw [hrn, push_rep r.mk' n h hB (by omega), ← hn, runOf_mk]
    exact ih (push_lens h h1 hB (Int.le_refl _) (by omega)) (by omega) (fun q hq => hr q (List.mem_cons_of_mem _ hq)) (by omega)

theorem joined_rle {rs : List Run} (hr : ∀ r ∈ rs, 1 ≤ r.len) (ht : total rs ≤ 10000000000) : joinedL rs = rle (expand rs) :=
  joined_acc (B := 0) (fun r h => by cases h) (Int.le_refl _) hr (by omega)

theorem expand_pos {rs : List Run} : expand (rs.filter fun r => r.len ≠ 0) = expand rs := by
  induction rs with
  | nil => rfl
  | cons r rs ih =>
    by_cases h : r.len = 0
    · rw [List.filter_cons_of_neg (by simp [h]), ih, expand_cons, h]; rfl
    · rw [List.filter_cons_of_pos (by simp [h]), expand_cons, ih, expand_cons]

theorem joinR_filter (rs : List Run) : joinR rs = joinedL (rs.filter fun r => r.len ≠ 0) := by
  unfold joinR joinedL
  have : ∀ acc, rs.foldl pushR acc = (rs.filter fun r => r.len ≠ 0).foldl push acc := by
    induction rs with
    | nil => intro acc; rfl
    | cons r rs ih =>
      intro acc
      by_cases h : r.len = 0
      · simp [h, pushR, ih]
      · simp [h, pushR, ih]
  exact this []

theorem normal_head_ne {r : Run} {rs : List Run} {B : Int} (h : Normal (r :: rs)) (hl : Lens B rs) : (expand rs).head? ≠ some r.mk' := by
  cases rs with
  | nil => simp [expand]
  | cons s rs =>
    have := hl s List.mem_cons_self
    obtain ⟨n, hn⟩ : ∃ n, s.len.toNat = n + 1 := ⟨s.len.toNat - 1, by omega⟩
    rw [expand_cons, hn, List.replicate_succ]
    simp only [List.cons_append, List.head?_cons, ne_eq, Option.some.injEq]
    exact fun e => h.1 e.symm

theorem normal_tail {r : Run} {rs : List Run} (h : Normal (r :: rs)) : Normal rs := by
  cases rs with
  | nil => trivial
  | cons s rs => exact h.2

/-- How many first marks are the same. -/
def cpl : List Mk → List Mk → Nat
  | a :: x, b :: y => if a = b then cpl x y + 1 else 0
  | _, _ => 0

theorem cpl_app (l x y : List Mk) : cpl (l ++ x) (l ++ y) = l.length + cpl x y := by
  induction l with
  | nil => simp
  | cons a l ih => simp [cpl, ih]; omega

theorem cpl_self (l : List Mk) : cpl l l = l.length := by
  have := cpl_app l [] []
  simpa [cpl] using this

theorem cpl_ne {x y : List Mk} (h : x.head? ≠ y.head? ∨ x = [] ∨ y = []) : cpl x y = 0 := by
  unfold cpl
  split
  · rename_i a x b y
    rcases h with h | h | h
    · rw [if_neg fun e => h (by simp [e])]
    · cases h
    · cases h
  · rfl

theorem cpl_step {r s : Run} {x y : List Run} {B C : Int} (hr : Lens B (r :: x)) (hs : Lens C (s :: y)) (nx : Normal (r :: x)) (ny : Normal (s :: y)) :
    (cpl (expand (r :: x)) (expand (s :: y)) : Int) = if r.mk' ≠ s.mk' then 0 else if r.len = s.len then r.len + cpl (expand x) (expand y) else min r.len s.len := by
  have h1 := hr r List.mem_cons_self
  have h2 := hs s List.mem_cons_self
  have hx : Lens B x := fun q hq => hr q (List.mem_cons_of_mem _ hq)
  have hy : Lens C y := fun q hq => hs q (List.mem_cons_of_mem _ hq)
  obtain ⟨n, hn⟩ : ∃ n, r.len.toNat = n + 1 := ⟨r.len.toNat - 1, by omega⟩
  obtain ⟨k, hk⟩ : ∃ k, s.len.toNat = k + 1 := ⟨s.len.toNat - 1, by omega⟩
  by_cases e : r.mk' = s.mk'
  · rw [if_neg (by simpa using e)]
    rw [expand_cons, expand_cons, ← e]
    by_cases el : r.len = s.len
    · rw [if_pos el, ← el, cpl_app, List.length_replicate]
      omega
    · rw [if_neg el]
      rcases Nat.lt_or_ge r.len.toNat s.len.toNat with hlt | hge
      · have h3 : s.len.toNat = r.len.toNat + (s.len.toNat - r.len.toNat) := by omega
        rw [h3, ← List.replicate_append_replicate, List.append_assoc, cpl_app, List.length_replicate, cpl_ne]
        · omega
        · left
          obtain ⟨j, hj⟩ : ∃ j, s.len.toNat - r.len.toNat = j + 1 := ⟨s.len.toNat - r.len.toNat - 1, by omega⟩
          rw [hj, List.replicate_succ]
          exact normal_head_ne nx hx
      · have h3 : r.len.toNat = s.len.toNat + (r.len.toNat - s.len.toNat) := by omega
        rw [h3, ← List.replicate_append_replicate, List.append_assoc, cpl_app, List.length_replicate, cpl_ne]
        · omega
        · left
          obtain ⟨j, hj⟩ : ∃ j, r.len.toNat - s.len.toNat = j + 1 := ⟨r.len.toNat - s.len.toNat - 1, by omega⟩
          rw [hj, List.replicate_succ]
          rw [e]
          exact fun h => normal_head_ne ny hy h.symm
  · rw [if_pos e, expand_cons, expand_cons, hn, hk, List.replicate_succ, List.replicate_succ, cpl_ne]
    · rfl
    · left
      simpa using e

theorem cpl_nil_left (x : List Mk) : cpl [] x = 0 := by unfold cpl; rfl
theorem cpl_nil_right (x : List Mk) : cpl x [] = 0 := by cases x <;> rfl

theorem rle_inj {x y : List Mk} (hx : x.length ≤ 100000000000) (hy : y.length ≤ 100000000000) (h : rle x = rle y) : x = y := by
  rw [← (rle_ok x hx).2.1, ← (rle_ok y hy).2.1, h]

theorem cpl_all {x y : List Mk} (h1 : cpl x y = x.length) (h2 : cpl x y = y.length) : x = y := by
  induction x generalizing y with
  | nil =>
    cases y with
    | nil => rfl
    | cons b y => simp [cpl] at h2
  | cons a x ih =>
    cases y with
    | nil => simp [cpl] at h1
    | cons b y =>
      simp only [cpl, List.length_cons] at h1 h2
      split at h1
      · rename_i e
        rw [if_pos e] at h2
        subst e
        rw [ih (Nat.succ.inj h1) (Nat.succ.inj h2)]
      · omega
end Go.AM.A
end

section
namespace Go.AM.A
open Go Go.Proofs

def both (xs ys : List Run) : Int := if validate xs = 0 then validate ys else validate xs

theorem c65 (t u : Bool) (xs ys : List Run) (hn : xs.length ≤ 1000000000) (hm : ys.length ≤ 1000000000) : (orcω E X0).call 65 [.sl t (xs.map encRun), .sl u (ys.map encRun)] = some (.int .i64 (both xs ys)) := by
  refine call_of rfl fn65 rfl ?_
  have h1 := c23 false xs hn
  have h2 := c23 false ys hm
  simp (maxSteps := 1000000) (implicitDefEqProofs := false) only [Try.ntmps65, Try.results65, efc65, h1, h2, ss, List.replicate, evOp, evPlain, evVal, evMem, St.eval, St.put, St.get, constV, List.set, lenV, sliceOf, arrayOf, fieldsOf, normOf, norm, firstRegion, look, maskFrom, evBin, evIndexS, evLoad, evVar, evStore, evFieldAddr, nameOf, St.alloc, St.drop, killL, kill, killAll, killObs, killOb, upd, cells?, part, retag, retagL, putIn, refFree, refFreeL, isNew, isNewL, Ty.isAgg, splice, idsL, ids, idsLL, reach, depth, St.dropL, resultsV, resultV, ↓reduceIte, Nat.reduceBEq, Nat.reduceAdd, Nat.reduceSub, Nat.reduceMul, Nat.reduceEqDiff, Nat.reduceLeDiff, Nat.reduceLT, effOf, effMem, effStore, effCall, effVar, effLit, effMake, effApp, Eff.ap, lend, evLit, evMake, evNil, freeze, onto, dropO, elemsV, sized, evCmp, eqT, eqG, minV, evUn, evField, evExtract, evIndexA, evIndexV, evSlice, optInt, fillV, placeOf, thawed, del, isNilSlice, plain, plainL, cellsJ, junkOk, St.with, setSlots, setObs, wantedD, seqOf, noRange, setAll, Array.size, te, einl, inls]
  (repeat' (rewrite [ask_to]; generalize hb : ask2 _ = w; rcases ask_cases hb with ⟨hc, rfl⟩ | ⟨hc, rfl⟩ <;> clear hb <;> (try simp (maxSteps := 1000000) (implicitDefEqProofs := false) only [h1, h2, Try.ntmps65, Try.results65, efc65, ss, List.replicate, evOp, evPlain, evVal, evMem, St.eval, St.put, St.get, constV, List.set, lenV, sliceOf, arrayOf, fieldsOf, normOf, norm, firstRegion, look, maskFrom, evBin, evIndexS, evLoad, evVar, evStore, evFieldAddr, nameOf, St.alloc, St.drop, killL, kill, killAll, killObs, killOb, upd, cells?, part, retag, retagL, putIn, refFree, refFreeL, isNew, isNewL, Ty.isAgg, splice, idsL, ids, idsLL, reach, depth, St.dropL, resultsV, resultV, ↓reduceIte, Nat.reduceBEq, Nat.reduceAdd, Nat.reduceSub, Nat.reduceMul, Nat.reduceEqDiff, Nat.reduceLeDiff, Nat.reduceLT, effOf, effMem, effStore, effCall, effVar, effLit, effMake, effApp, Eff.ap, lend, evLit, evMake, evNil, freeze, onto, dropO, elemsV, sized, evCmp, eqT, eqG, minV, evUn, evField, evExtract, evIndexA, evIndexV, evSlice, optInt, fillV, placeOf, thawed, del, isNilSlice, plain, plainL, cellsJ, junkOk, St.with, setSlots, setObs, wantedD, seqOf, noRange, setAll, Array.size, te, einl, inls])))
  all_goals simp_all [both]

theorem c67 (t u : Bool) (xs ys : List Run) (hn : xs.length ≤ 1000000000) (hm : ys.length ≤ 1000000000) : (orcω E X0).call 67 [.sl t (xs.map encRun), .sl u (ys.map encRun)] = some (.int .i64 (both xs ys)) := by
  refine call_of rfl fn67 rfl ?_
  have h1 := c24 false xs hn
  have h2 := c24 false ys hm
  simp (maxSteps := 1000000) (implicitDefEqProofs := false) only [Try.ntmps67, Try.results67, efc67, h1, h2, ss, List.replicate, evOp, evPlain, evVal, evMem, St.eval, St.put, St.get, constV, List.set, lenV, sliceOf, arrayOf, fieldsOf, normOf, norm, firstRegion, look, maskFrom, evBin, evIndexS, evLoad, evVar, evStore, evFieldAddr, nameOf, St.alloc, St.drop, killL, kill, killAll, killObs, killOb, upd, cells?, part, retag, retagL, putIn, refFree, refFreeL, isNew, isNewL, Ty.isAgg, splice, idsL, ids, idsLL, reach, depth, St.dropL, resultsV, resultV, ↓reduceIte, Nat.reduceBEq, Nat.reduceAdd, Nat.reduceSub, Nat.reduceMul, Nat.reduceEqDiff, Nat.reduceLeDiff, Nat.reduceLT, effOf, effMem, effStore, effCall, effVar, effLit, effMake, effApp, Eff.ap, lend, evLit, evMake, evNil, freeze, onto, dropO, elemsV, sized, evCmp, eqT, eqG, minV, evUn, evField, evExtract, evIndexA, evIndexV, evSlice, optInt, fillV, placeOf, thawed, del, isNilSlice, plain, plainL, cellsJ, junkOk, St.with, setSlots, setObs, wantedD, seqOf, noRange, setAll, Array.size, te, einl, inls]
  (repeat' (rewrite [ask_to]; generalize hb : ask2 _ = w; rcases ask_cases hb with ⟨hc, rfl⟩ | ⟨hc, rfl⟩ <;> clear hb <;> (try simp (maxSteps := 1000000) (implicitDefEqProofs := false) only [h1, h2, Try.ntmps67, Try.results67, efc67, ss, List.replicate, evOp, evPlain, evVal, evMem, St.eval, St.put, St.get, constV, List.set, lenV, sliceOf, arrayOf, fieldsOf, normOf, norm, firstRegion, look, maskFrom, evBin, evIndexS, evLoad, evVar, evStore, evFieldAddr, nameOf, St.alloc, St.drop, killL, kill, killAll, killObs, killOb, upd, cells?, part, retag, retagL, putIn, refFree, refFreeL, isNew, isNewL, Ty.isAgg, splice, idsL, ids, idsLL, reach, depth, St.dropL, resultsV, resultV, ↓reduceIte, Nat.reduceBEq, Nat.reduceAdd, Nat.reduceSub, Nat.reduceMul, Nat.reduceEqDiff, Nat.reduceLeDiff, Nat.reduceLT, effOf, effMem, effStore, effCall, effVar, effLit, effMake, effApp, Eff.ap, lend, evLit, evMake, evNil, freeze, onto, dropO, elemsV, sized, evCmp, eqT, eqG, minV, evUn, evField, evExtract, evIndexA, evIndexV, evSlice, optInt, fillV, placeOf, thawed, del, isNilSlice, plain, plainL, cellsJ, junkOk, St.with, setSlots, setObs, wantedD, seqOf, noRange, setAll, Array.size, te, einl, inls])))
  all_goals simp_all [both]

def encSl (p : Bool × List Run) : V := .sl p.1 (p.2.map encRun)

theorem c66 (ls : List (Bool × List Run)) (hn : ls.length ≤ 1000) (hm : (ls.flatMap (·.2)).length ≤ 1000000) :
    (orcω E X0).call 66 [.sl false (ls.map encSl)] = some (.sl ls.isEmpty ((ls.flatMap (·.2)).map encRun)) := by
  refine call_of rfl fn66 rfl ?_
  simp (maxSteps := 1000000) (implicitDefEqProofs := false) only [Try.ntmps66, Try.results66, efc66, fc66, ss, List.replicate, evOp, evPlain, evVal, evMem, St.eval, St.put, St.get, constV, List.set, lenV, sliceOf, arrayOf, fieldsOf, normOf, norm, firstRegion, look, maskFrom, evBin, evIndexS, evLoad, evVar, evStore, evFieldAddr, nameOf, St.alloc, St.drop, killL, kill, killAll, killObs, killOb, upd, cells?, part, retag, retagL, putIn, refFree, refFreeL, isNew, isNewL, Ty.isAgg, splice, idsL, ids, idsLL, reach, depth, St.dropL, resultsV, resultV, ↓reduceIte, Nat.reduceBEq, Nat.reduceAdd, Nat.reduceSub, Nat.reduceMul, Nat.reduceEqDiff, Nat.reduceLeDiff, Nat.reduceLT, effOf, effMem, effStore, effCall, effVar, effLit, effMake, effApp, Eff.ap, lend, evLit, evMake, evNil, freeze, onto, dropO, elemsV, sized, evCmp, eqT, eqG, minV, evUn, evField, evExtract, evIndexA, evIndexV, evSlice, optInt, fillV, placeOf, thawed, del, isNilSlice, plain, plainL, cellsJ, junkOk, St.with, setSlots, setObs, wantedD, seqOf, noRange, setAll, Array.size, te, einl, inls]
  generalize hr : loopAt _ _ _ _ _ _ = r; revert r
  refine loop_list ls (fun pre _ => [(3, .own 3 0 (pre.flatMap (·.2)).length), (8, .int .i64 pre.length)]) (fun pre _ => [(3, { es := 4, flat := true, t := pre.isEmpty, app := true, elems := (pre.flatMap (·.2)).map encRun })])
    (fun _ (_ : Unit) => True) () (by omega) (by simp (maxSteps := 1000000) (implicitDefEqProofs := false) only [ss, List.replicate, evOp, evPlain, evVal, evMem, St.eval, St.put, St.get, constV, List.set, lenV, sliceOf, arrayOf, fieldsOf, normOf, norm, firstRegion, look, maskFrom, evBin, evIndexS, evLoad, evVar, evStore, evFieldAddr, nameOf, St.alloc, St.drop, killL, kill, killAll, killObs, killOb, upd, cells?, part, retag, retagL, putIn, refFree, refFreeL, isNew, isNewL, Ty.isAgg, splice, idsL, ids, idsLL, reach, depth, St.dropL, resultsV, resultV, ↓reduceIte, Nat.reduceBEq, Nat.reduceAdd, Nat.reduceSub, Nat.reduceMul, Nat.reduceEqDiff, Nat.reduceLeDiff, Nat.reduceLT, effOf, effMem, effStore, effCall, effVar, effLit, effMake, effApp, Eff.ap, lend, evLit, evMake, evNil, freeze, onto, dropO, elemsV, sized, evCmp, eqT, eqG, minV, evUn, evField, evExtract, evIndexA, evIndexV, evSlice, optInt, fillV, placeOf, thawed, del, isNilSlice, plain, plainL, cellsJ, junkOk, St.with, setSlots, setObs, wantedD, seqOf, noRange, setAll, Array.size, te, einl, inls]) trivial (fun _ _ => ?_) (fun pre x post _ hp _ h1 h2 h3 h4 => ?_)
  · simp (maxSteps := 1000000) (implicitDefEqProofs := false) only [Int.lt_irrefl, Try.ntmps66, Try.results66, efc66, fc66, ss, List.replicate, evOp, evPlain, evVal, evMem, St.eval, St.put, St.get, constV, List.set, lenV, sliceOf, arrayOf, fieldsOf, normOf, norm, firstRegion, look, maskFrom, evBin, evIndexS, evLoad, evVar, evStore, evFieldAddr, nameOf, St.alloc, St.drop, killL, kill, killAll, killObs, killOb, upd, cells?, part, retag, retagL, putIn, refFree, refFreeL, isNew, isNewL, Ty.isAgg, splice, idsL, ids, idsLL, reach, depth, St.dropL, resultsV, resultV, ↓reduceIte, Nat.reduceBEq, Nat.reduceAdd, Nat.reduceSub, Nat.reduceMul, Nat.reduceEqDiff, Nat.reduceLeDiff, Nat.reduceLT, effOf, effMem, effStore, effCall, effVar, effLit, effMake, effApp, Eff.ap, lend, evLit, evMake, evNil, freeze, onto, dropO, elemsV, sized, evCmp, eqT, eqG, minV, evUn, evField, evExtract, evIndexA, evIndexV, evSlice, optInt, fillV, placeOf, thawed, del, isNilSlice, plain, plainL, cellsJ, junkOk, St.with, setSlots, setObs, wantedD, seqOf, noRange, setAll, Array.size, te, einl, inls]
  · have h5 : pre.flatMap (·.2) ++ x.2 = (pre ++ [x]).flatMap (·.2) := by simp
    have h6 : ((pre.flatMap (·.2)).length + x.2.length) ≤ 1000000 := by
      rw [← List.length_append, h5]
      refine Nat.le_trans ?_ hm
      rw [hp]; simp; try omega
    generalize hl : (pre.flatMap (·.2)).length = l at *
    have hroom : roomy (l + x.2.length) 32 = true := by simp [roomy]; omega
    have hbig : l + x.2.length ≤ 4294967296 := by omega
    simp (maxSteps := 1000000) (implicitDefEqProofs := false) only [h1, h2, h3, Int.natCast_nonneg, Int.toNat_natCast, List.getElem?_map, encSl, hroom, hbig, sized_runs, hl, ss, List.replicate, evOp, evPlain, evVal, evMem, St.eval, St.put, St.get, constV, List.set, lenV, sliceOf, arrayOf, fieldsOf, normOf, norm, firstRegion, look, maskFrom, evBin, evIndexS, evLoad, evVar, evStore, evFieldAddr, nameOf, St.alloc, St.drop, killL, kill, killAll, killObs, killOb, upd, cells?, part, retag, retagL, putIn, refFree, refFreeL, isNew, isNewL, Ty.isAgg, splice, idsL, ids, idsLL, reach, depth, St.dropL, resultsV, resultV, ↓reduceIte, Nat.reduceBEq, Nat.reduceAdd, Nat.reduceSub, Nat.reduceMul, Nat.reduceEqDiff, Nat.reduceLeDiff, Nat.reduceLT, effOf, effMem, effStore, effCall, effVar, effLit, effMake, effApp, Eff.ap, lend, evLit, evMake, evNil, freeze, onto, dropO, elemsV, sized, evCmp, eqT, eqG, minV, evUn, evField, evExtract, evIndexA, evIndexV, evSlice, optInt, fillV, placeOf, thawed, del, isNilSlice, plain, plainL, cellsJ, junkOk, St.with, setSlots, setObs, wantedD, seqOf, noRange, setAll, Array.size, te, einl, inls]
    rw [h4, ← h5]
    simp [hl]


theorem c68 (xs ys : List Run) (hn : xs.length ≤ 1000000) (hm : ys.length ≤ 1000000) : (orcω E X0).call 68 [.sl false (xs.map encRun), .sl false (ys.map encRun)] = some (.sl false ((xs ++ ys).map encRun)) := by
  refine call_of rfl fn68 rfl ?_
  have h1 : roomy xs.length 32 = true := by simp [roomy]; omega
  have h2 : roomy (xs.length + ys.length) 32 = true := by simp [roomy]; omega
  have h3 : xs.length + ys.length ≤ 4294967296 := by omega
  have h4 : xs.length ≤ 4294967296 := by omega
  simp (maxSteps := 1000000) (implicitDefEqProofs := false) only [Try.ntmps68, Try.results68, efc68, fc68, h1, h2, h3, h4, sized_runs, Nat.zero_add, ss, List.replicate, evOp, evPlain, evVal, evMem, St.eval, St.put, St.get, constV, List.set, lenV, sliceOf, arrayOf, fieldsOf, normOf, norm, firstRegion, look, maskFrom, evBin, evIndexS, evLoad, evVar, evStore, evFieldAddr, nameOf, St.alloc, St.drop, killL, kill, killAll, killObs, killOb, upd, cells?, part, retag, retagL, putIn, refFree, refFreeL, isNew, isNewL, Ty.isAgg, splice, idsL, ids, idsLL, reach, depth, St.dropL, resultsV, resultV, ↓reduceIte, Nat.reduceBEq, Nat.reduceAdd, Nat.reduceSub, Nat.reduceMul, Nat.reduceEqDiff, Nat.reduceLeDiff, Nat.reduceLT, effOf, effMem, effStore, effCall, effVar, effLit, effMake, effApp, Eff.ap, lend, evLit, evMake, evNil, freeze, onto, dropO, elemsV, sized, evCmp, eqT, eqG, minV, evUn, evField, evExtract, evIndexA, evIndexV, evSlice, optInt, fillV, placeOf, thawed, del, isNilSlice, plain, plainL, cellsJ, junkOk, St.with, setSlots, setObs, wantedD, seqOf, noRange, setAll, Array.size, te, einl, inls]
  simp [List.take_of_length_le]

theorem c27 (xs ys : List Run) (hn : xs.length ≤ 100000) (hm : ys.length ≤ 100000) : (orcω E X0).call 27 [.sl false (xs.map encRun), .sl false (ys.map encRun)] = some (encRes (if both xs ys = 0 then finished (joinedL (xs ++ ys)) else ([], both xs ys))) := by
  refine call_of rfl fn27 rfl ?_
  have h1 := c65 false false xs ys (by omega) (by omega)
  have h2 := c66 [(false, xs), (false, ys)] (by simp) (by simp; omega)
  have h3 := c59 false (xs ++ ys) (by simp; omega)
  simp only [List.map_cons, List.map_nil, encSl, List.flatMap_cons, List.flatMap_nil, List.append_nil, List.isEmpty_cons, encRes] at h2 h3
  simp (maxSteps := 1000000) (implicitDefEqProofs := false) only [Try.ntmps27, Try.results27, efc27, h1, h2, h3, ss, List.replicate, evOp, evPlain, evVal, evMem, St.eval, St.put, St.get, constV, List.set, lenV, sliceOf, arrayOf, fieldsOf, normOf, norm, firstRegion, look, maskFrom, evBin, evIndexS, evLoad, evVar, evStore, evFieldAddr, nameOf, St.alloc, St.drop, killL, kill, killAll, killObs, killOb, upd, cells?, part, retag, retagL, putIn, refFree, refFreeL, isNew, isNewL, Ty.isAgg, splice, idsL, ids, idsLL, reach, depth, St.dropL, resultsV, resultV, ↓reduceIte, Nat.reduceBEq, Nat.reduceAdd, Nat.reduceSub, Nat.reduceMul, Nat.reduceEqDiff, Nat.reduceLeDiff, Nat.reduceLT, effOf, effMem, effStore, effCall, effVar, effLit, effMake, effApp, Eff.ap, lend, evLit, evMake, evNil, freeze, onto, dropO, elemsV, sized, evCmp, eqT, eqG, minV, evUn, evField, evExtract, evIndexA, evIndexV, evSlice, optInt, fillV, placeOf, thawed, del, isNilSlice, plain, plainL, cellsJ, junkOk, St.with, setSlots, setObs, wantedD, seqOf, noRange, setAll, Array.size, te, einl, inls]
  (repeat' (rewrite [ask_to]; generalize hb : ask2 _ = w; rcases ask_cases hb with ⟨hc, rfl⟩ | ⟨hc, rfl⟩ <;> clear hb <;> (try simp (maxSteps := 1000000) (implicitDefEqProofs := false) only [Try.ntmps27, Try.results27, efc27, h1, h2, h3, ss, List.replicate, evOp, evPlain, evVal, evMem, St.eval, St.put, St.get, constV, List.set, lenV, sliceOf, arrayOf, fieldsOf, normOf, norm, firstRegion, look, maskFrom, evBin, evIndexS, evLoad, evVar, evStore, evFieldAddr, nameOf, St.alloc, St.drop, killL, kill, killAll, killObs, killOb, upd, cells?, part, retag, retagL, putIn, refFree, refFreeL, isNew, isNewL, Ty.isAgg, splice, idsL, ids, idsLL, reach, depth, St.dropL, resultsV, resultV, ↓reduceIte, Nat.reduceBEq, Nat.reduceAdd, Nat.reduceSub, Nat.reduceMul, Nat.reduceEqDiff, Nat.reduceLeDiff, Nat.reduceLT, effOf, effMem, effStore, effCall, effVar, effLit, effMake, effApp, Eff.ap, lend, evLit, evMake, evNil, freeze, onto, dropO, elemsV, sized, evCmp, eqT, eqG, minV, evUn, evField, evExtract, evIndexA, evIndexV, evSlice, optInt, fillV, placeOf, thawed, del, isNilSlice, plain, plainL, cellsJ, junkOk, St.with, setSlots, setObs, wantedD, seqOf, noRange, setAll, Array.size, te, einl, inls])))
  all_goals simp_all [encRes]

theorem c28 (xs ys : List Run) (hn : xs.length ≤ 100000) (hm : ys.length ≤ 100000) : (orcω E X0).call 28 [.sl false (xs.map encRun), .sl false (ys.map encRun)] = some (encRes (if both xs ys = 0 then finished (joinR (xs ++ ys)) else ([], both xs ys))) := by
  refine call_of rfl fn28 rfl ?_
  have h1 := c67 false false xs ys (by omega) (by omega)
  have h2 := c68 xs ys (by omega) (by omega)
  have h3 := c60 false (xs ++ ys) (by simp; omega)
  simp only [encRes] at h3
  simp (maxSteps := 1000000) (implicitDefEqProofs := false) only [Try.ntmps28, Try.results28, efc28, h1, h2, h3, ss, List.replicate, evOp, evPlain, evVal, evMem, St.eval, St.put, St.get, constV, List.set, lenV, sliceOf, arrayOf, fieldsOf, normOf, norm, firstRegion, look, maskFrom, evBin, evIndexS, evLoad, evVar, evStore, evFieldAddr, nameOf, St.alloc, St.drop, killL, kill, killAll, killObs, killOb, upd, cells?, part, retag, retagL, putIn, refFree, refFreeL, isNew, isNewL, Ty.isAgg, splice, idsL, ids, idsLL, reach, depth, St.dropL, resultsV, resultV, ↓reduceIte, Nat.reduceBEq, Nat.reduceAdd, Nat.reduceSub, Nat.reduceMul, Nat.reduceEqDiff, Nat.reduceLeDiff, Nat.reduceLT, effOf, effMem, effStore, effCall, effVar, effLit, effMake, effApp, Eff.ap, lend, evLit, evMake, evNil, freeze, onto, dropO, elemsV, sized, evCmp, eqT, eqG, minV, evUn, evField, evExtract, evIndexA, evIndexV, evSlice, optInt, fillV, placeOf, thawed, del, isNilSlice, plain, plainL, cellsJ, junkOk, St.with, setSlots, setObs, wantedD, seqOf, noRange, setAll, Array.size, te, einl, inls]
  (repeat' (rewrite [ask_to]; generalize hb : ask2 _ = w; rcases ask_cases hb with ⟨hc, rfl⟩ | ⟨hc, rfl⟩ <;> clear hb <;> (try simp (maxSteps := 1000000) (implicitDefEqProofs := false) only [Try.ntmps28, Try.results28, efc28, h1, h2, h3, ss, List.replicate, evOp, evPlain, evVal, evMem, St.eval, St.put, St.get, constV, List.set, lenV, sliceOf, arrayOf, fieldsOf, normOf, norm, firstRegion, look, maskFrom, evBin, evIndexS, evLoad, evVar, evStore, evFieldAddr, nameOf, St.alloc, St.drop, killL, kill, killAll, killObs, killOb, upd, cells?, part, retag, retagL, putIn, refFree, refFreeL, isNew, isNewL, Ty.isAgg, splice, idsL, ids, idsLL, reach, depth, St.dropL, resultsV, resultV, ↓reduceIte, Nat.reduceBEq, Nat.reduceAdd, Nat.reduceSub, Nat.reduceMul, Nat.reduceEqDiff, Nat.reduceLeDiff, Nat.reduceLT, effOf, effMem, effStore, effCall, effVar, effLit, effMake, effApp, Eff.ap, lend, evLit, evMake, evNil, freeze, onto, dropO, elemsV, sized, evCmp, eqT, eqG, minV, evUn, evField, evExtract, evIndexA, evIndexV, evSlice, optInt, fillV, placeOf, thawed, del, isNilSlice, plain, plainL, cellsJ, junkOk, St.with, setSlots, setObs, wantedD, seqOf, noRange, setAll, Array.size, te, einl, inls])))
  all_goals simp_all [encRes]

theorem c29 (xs : List Run) (hn : xs.length ≤ 100000) : (orcω E X0).call 29 [.sl false (xs.map encRun)] = some (encRes (if validate xs = 0 then finished (joinedL xs.reverse) else ([], validate xs))) := by
  refine call_of rfl fn29 rfl ?_
  have h1 := c23 false xs (by omega)
  have h3 := c59 false xs.reverse (by simp; omega)
  simp only [encRes] at h3
  simp (maxSteps := 1000000) (implicitDefEqProofs := false) only [Try.ntmps29, Try.results29, efc29, fc29, h1, ss, List.replicate, evOp, evPlain, evVal, evMem, St.eval, St.put, St.get, constV, List.set, lenV, sliceOf, arrayOf, fieldsOf, normOf, norm, firstRegion, look, maskFrom, evBin, evIndexS, evLoad, evVar, evStore, evFieldAddr, nameOf, St.alloc, St.drop, killL, kill, killAll, killObs, killOb, upd, cells?, part, retag, retagL, putIn, refFree, refFreeL, isNew, isNewL, Ty.isAgg, splice, idsL, ids, idsLL, reach, depth, St.dropL, resultsV, resultV, ↓reduceIte, Nat.reduceBEq, Nat.reduceAdd, Nat.reduceSub, Nat.reduceMul, Nat.reduceEqDiff, Nat.reduceLeDiff, Nat.reduceLT, effOf, effMem, effStore, effCall, effVar, effLit, effMake, effApp, Eff.ap, lend, evLit, evMake, evNil, freeze, onto, dropO, elemsV, sized, evCmp, eqT, eqG, minV, evUn, evField, evExtract, evIndexA, evIndexV, evSlice, optInt, fillV, placeOf, thawed, del, isNilSlice, plain, plainL, cellsJ, junkOk, St.with, setSlots, setObs, wantedD, seqOf, noRange, setAll, Array.size, te, einl, inls]
  (repeat' (rewrite [ask_to]; generalize hb : ask2 _ = w; rcases ask_cases hb with ⟨hc, rfl⟩ | ⟨hc, rfl⟩ <;> clear hb <;> (try simp (maxSteps := 1000000) (implicitDefEqProofs := false) only [Try.ntmps29, Try.results29, efc29, fc29, h1, ss, List.replicate, evOp, evPlain, evVal, evMem, St.eval, St.put, St.get, constV, List.set, lenV, sliceOf, arrayOf, fieldsOf, normOf, norm, firstRegion, look, maskFrom, evBin, evIndexS, evLoad, evVar, evStore, evFieldAddr, nameOf, St.alloc, St.drop, killL, kill, killAll, killObs, killOb, upd, cells?, part, retag, retagL, putIn, refFree, refFreeL, isNew, isNewL, Ty.isAgg, splice, idsL, ids, idsLL, reach, depth, St.dropL, resultsV, resultV, ↓reduceIte, Nat.reduceBEq, Nat.reduceAdd, Nat.reduceSub, Nat.reduceMul, Nat.reduceEqDiff, Nat.reduceLeDiff, Nat.reduceLT, effOf, effMem, effStore, effCall, effVar, effLit, effMake, effApp, Eff.ap, lend, evLit, evMake, evNil, freeze, onto, dropO, elemsV, sized, evCmp, eqT, eqG, minV, evUn, evField, evExtract, evIndexA, evIndexV, evSlice, optInt, fillV, placeOf, thawed, del, isNilSlice, plain, plainL, cellsJ, junkOk, St.with, setSlots, setObs, wantedD, seqOf, noRange, setAll, Array.size, te, einl, inls])))
  · simp_all [encRes]
  generalize hr : loopAt _ _ _ _ _ _ = r; revert r
  refine loop_list xs.reverse (fun pre _ => [(5, .own 5 0 pre.length), (14, .int .i64 pre.length)]) (fun pre _ => [(5, { es := 4, flat := true, t := true, app := true, elems := pre.map encRun })])
    (fun _ (_ : Unit) => True) () (by simp; omega) (by simp (maxSteps := 1000000) (implicitDefEqProofs := false) only [ss, List.replicate, evOp, evPlain, evVal, evMem, St.eval, St.put, St.get, constV, List.set, lenV, sliceOf, arrayOf, fieldsOf, normOf, norm, firstRegion, look, maskFrom, evBin, evIndexS, evLoad, evVar, evStore, evFieldAddr, nameOf, St.alloc, St.drop, killL, kill, killAll, killObs, killOb, upd, cells?, part, retag, retagL, putIn, refFree, refFreeL, isNew, isNewL, Ty.isAgg, splice, idsL, ids, idsLL, reach, depth, St.dropL, resultsV, resultV, ↓reduceIte, Nat.reduceBEq, Nat.reduceAdd, Nat.reduceSub, Nat.reduceMul, Nat.reduceEqDiff, Nat.reduceLeDiff, Nat.reduceLT, effOf, effMem, effStore, effCall, effVar, effLit, effMake, effApp, Eff.ap, lend, evLit, evMake, evNil, freeze, onto, dropO, elemsV, sized, evCmp, eqT, eqG, minV, evUn, evField, evExtract, evIndexA, evIndexV, evSlice, optInt, fillV, placeOf, thawed, del, isNilSlice, plain, plainL, cellsJ, junkOk, St.with, setSlots, setObs, wantedD, seqOf, noRange, setAll, Array.size, te, einl, inls]) trivial (fun _ _ => ?_) (fun pre x post _ hp _ g1 g2 g3 g4 => ?_)
  · have h4 : (xs.reverse.map encRun).take xs.length = xs.reverse.map encRun := List.take_of_length_le (by simp)
    simp (maxSteps := 1000000) (implicitDefEqProofs := false) only [Int.lt_irrefl, Try.ntmps29, Try.results29, efc29, fc29, List.length_reverse, h4, h3, ss, List.replicate, evOp, evPlain, evVal, evMem, St.eval, St.put, St.get, constV, List.set, lenV, sliceOf, arrayOf, fieldsOf, normOf, norm, firstRegion, look, maskFrom, evBin, evIndexS, evLoad, evVar, evStore, evFieldAddr, nameOf, St.alloc, St.drop, killL, kill, killAll, killObs, killOb, upd, cells?, part, retag, retagL, putIn, refFree, refFreeL, isNew, isNewL, Ty.isAgg, splice, idsL, ids, idsLL, reach, depth, St.dropL, resultsV, resultV, ↓reduceIte, Nat.reduceBEq, Nat.reduceAdd, Nat.reduceSub, Nat.reduceMul, Nat.reduceEqDiff, Nat.reduceLeDiff, Nat.reduceLT, effOf, effMem, effStore, effCall, effVar, effLit, effMake, effApp, Eff.ap, lend, evLit, evMake, evNil, freeze, onto, dropO, elemsV, sized, evCmp, eqT, eqG, minV, evUn, evField, evExtract, evIndexA, evIndexV, evSlice, optInt, fillV, placeOf, thawed, del, isNilSlice, plain, plainL, cellsJ, junkOk, St.with, setSlots, setObs, wantedD, seqOf, noRange, setAll, Array.size, te, einl, inls]
    simp_all [encRes]
  · simp only [List.length_reverse] at g1 g2
    have g5 : xs[xs.length - 1 - pre.length]? = some x := by rw [← g3, List.getElem?_reverse g2]
    have g6 : (xs.length : Int) - 1 - pre.length = ((xs.length - 1 - pre.length : Nat) : Int) := by omega
    have hroom : roomy (pre.length + 1) 32 = true := by simp [roomy]; omega
    have hbig : pre.length + 1 ≤ 4294967296 := by omega
    simp (maxSteps := 1000000) (implicitDefEqProofs := false) (disch := omega) only [g1, g2, g5, g6, Int.natCast_nonneg, Int.toNat_natCast, List.getElem?_map, encRun, hroom, hbig, wrap_in, ss, List.replicate, evOp, evPlain, evVal, evMem, St.eval, St.put, St.get, constV, List.set, lenV, sliceOf, arrayOf, fieldsOf, normOf, norm, firstRegion, look, maskFrom, evBin, evIndexS, evLoad, evVar, evStore, evFieldAddr, nameOf, St.alloc, St.drop, killL, kill, killAll, killObs, killOb, upd, cells?, part, retag, retagL, putIn, refFree, refFreeL, isNew, isNewL, Ty.isAgg, splice, idsL, ids, idsLL, reach, depth, St.dropL, resultsV, resultV, ↓reduceIte, Nat.reduceBEq, Nat.reduceAdd, Nat.reduceSub, Nat.reduceMul, Nat.reduceEqDiff, Nat.reduceLeDiff, Nat.reduceLT, effOf, effMem, effStore, effCall, effVar, effLit, effMake, effApp, Eff.ap, lend, evLit, evMake, evNil, freeze, onto, dropO, elemsV, sized, evCmp, eqT, eqG, minV, evUn, evField, evExtract, evIndexA, evIndexV, evSlice, optInt, fillV, placeOf, thawed, del, isNilSlice, plain, plainL, cellsJ, junkOk, St.with, setSlots, setObs, wantedD, seqOf, noRange, setAll, Array.size, te, einl, inls]
    simp [encRun]

theorem c30 (xs : List Run) (hn : xs.length ≤ 100000) : (orcω E X0).call 30 [.sl false (xs.map encRun)] = some (encRes (if validate xs = 0 then finished (joinR xs.reverse) else ([], validate xs))) := by
  refine call_of rfl fn30 rfl ?_
  have h1 := c24 false xs (by omega)
  have h3 := c60 false xs.reverse (by simp; omega)
  simp only [encRes] at h3
  simp (maxSteps := 1000000) (implicitDefEqProofs := false) (disch := omega) only [Try.ntmps30, Try.results30, efc30, fc30, h1, wrap_in, ss, List.replicate, evOp, evPlain, evVal, evMem, St.eval, St.put, St.get, constV, List.set, lenV, sliceOf, arrayOf, fieldsOf, normOf, norm, firstRegion, look, maskFrom, evBin, evIndexS, evLoad, evVar, evStore, evFieldAddr, nameOf, St.alloc, St.drop, killL, kill, killAll, killObs, killOb, upd, cells?, part, retag, retagL, putIn, refFree, refFreeL, isNew, isNewL, Ty.isAgg, splice, idsL, ids, idsLL, reach, depth, St.dropL, resultsV, resultV, ↓reduceIte, Nat.reduceBEq, Nat.reduceAdd, Nat.reduceSub, Nat.reduceMul, Nat.reduceEqDiff, Nat.reduceLeDiff, Nat.reduceLT, effOf, effMem, effStore, effCall, effVar, effLit, effMake, effApp, Eff.ap, lend, evLit, evMake, evNil, freeze, onto, dropO, elemsV, sized, evCmp, eqT, eqG, minV, evUn, evField, evExtract, evIndexA, evIndexV, evSlice, optInt, fillV, placeOf, thawed, del, isNilSlice, plain, plainL, cellsJ, junkOk, St.with, setSlots, setObs, wantedD, seqOf, noRange, setAll, Array.size, te, einl, inls]
  (repeat' (rewrite [ask_to]; generalize hb : ask2 _ = w; rcases ask_cases hb with ⟨hc, rfl⟩ | ⟨hc, rfl⟩ <;> clear hb <;> (try simp (maxSteps := 1000000) (implicitDefEqProofs := false) (disch := omega) only [Try.ntmps30, Try.results30, efc30, fc30, h1, wrap_in, ss, List.replicate, evOp, evPlain, evVal, evMem, St.eval, St.put, St.get, constV, List.set, lenV, sliceOf, arrayOf, fieldsOf, normOf, norm, firstRegion, look, maskFrom, evBin, evIndexS, evLoad, evVar, evStore, evFieldAddr, nameOf, St.alloc, St.drop, killL, kill, killAll, killObs, killOb, upd, cells?, part, retag, retagL, putIn, refFree, refFreeL, isNew, isNewL, Ty.isAgg, splice, idsL, ids, idsLL, reach, depth, St.dropL, resultsV, resultV, ↓reduceIte, Nat.reduceBEq, Nat.reduceAdd, Nat.reduceSub, Nat.reduceMul, Nat.reduceEqDiff, Nat.reduceLeDiff, Nat.reduceLT, effOf, effMem, effStore, effCall, effVar, effLit, effMake, effApp, Eff.ap, lend, evLit, evMake, evNil, freeze, onto, dropO, elemsV, sized, evCmp, eqT, eqG, minV, evUn, evField, evExtract, evIndexA, evIndexV, evSlice, optInt, fillV, placeOf, thawed, del, isNilSlice, plain, plainL, cellsJ, junkOk, St.with, setSlots, setObs, wantedD, seqOf, noRange, setAll, Array.size, te, einl, inls])))
  · simp_all [encRes]
  generalize hr : loopAt _ _ _ _ _ _ = r; revert r
  refine loop_list xs.reverse (fun pre _ => [(5, .own 5 0 pre.length), (6, .int .i64 ((xs.length : Int) - 1 - pre.length))]) (fun pre _ => [(5, { es := 4, flat := true, t := true, app := true, elems := pre.map encRun })])
    (fun _ (_ : Unit) => True) () (by simp; omega) (by simp (maxSteps := 1000000) (implicitDefEqProofs := false) only [Int.sub_zero, ss, List.replicate, evOp, evPlain, evVal, evMem, St.eval, St.put, St.get, constV, List.set, lenV, sliceOf, arrayOf, fieldsOf, normOf, norm, firstRegion, look, maskFrom, evBin, evIndexS, evLoad, evVar, evStore, evFieldAddr, nameOf, St.alloc, St.drop, killL, kill, killAll, killObs, killOb, upd, cells?, part, retag, retagL, putIn, refFree, refFreeL, isNew, isNewL, Ty.isAgg, splice, idsL, ids, idsLL, reach, depth, St.dropL, resultsV, resultV, ↓reduceIte, Nat.reduceBEq, Nat.reduceAdd, Nat.reduceSub, Nat.reduceMul, Nat.reduceEqDiff, Nat.reduceLeDiff, Nat.reduceLT, effOf, effMem, effStore, effCall, effVar, effLit, effMake, effApp, Eff.ap, lend, evLit, evMake, evNil, freeze, onto, dropO, elemsV, sized, evCmp, eqT, eqG, minV, evUn, evField, evExtract, evIndexA, evIndexV, evSlice, optInt, fillV, placeOf, thawed, del, isNilSlice, plain, plainL, cellsJ, junkOk, St.with, setSlots, setObs, wantedD, seqOf, noRange, setAll, Array.size, te, einl, inls]) trivial (fun _ _ => ?_) (fun pre x post _ hp _ g1 g2 g3 g4 => ?_)
  · have h4 : (xs.reverse.map encRun).take xs.length = xs.reverse.map encRun := List.take_of_length_le (by simp)
    have g0 : xs.reverse.length = xs.length := by simp
    have h5 : ¬ (0 : Int) ≤ (xs.length : Int) - 1 - xs.length := by omega
    simp (maxSteps := 1000000) (implicitDefEqProofs := false) only [h5, g0, Try.ntmps30, Try.results30, efc30, fc30, List.length_reverse, h4, h3, ss, List.replicate, evOp, evPlain, evVal, evMem, St.eval, St.put, St.get, constV, List.set, lenV, sliceOf, arrayOf, fieldsOf, normOf, norm, firstRegion, look, maskFrom, evBin, evIndexS, evLoad, evVar, evStore, evFieldAddr, nameOf, St.alloc, St.drop, killL, kill, killAll, killObs, killOb, upd, cells?, part, retag, retagL, putIn, refFree, refFreeL, isNew, isNewL, Ty.isAgg, splice, idsL, ids, idsLL, reach, depth, St.dropL, resultsV, resultV, ↓reduceIte, Nat.reduceBEq, Nat.reduceAdd, Nat.reduceSub, Nat.reduceMul, Nat.reduceEqDiff, Nat.reduceLeDiff, Nat.reduceLT, effOf, effMem, effStore, effCall, effVar, effLit, effMake, effApp, Eff.ap, lend, evLit, evMake, evNil, freeze, onto, dropO, elemsV, sized, evCmp, eqT, eqG, minV, evUn, evField, evExtract, evIndexA, evIndexV, evSlice, optInt, fillV, placeOf, thawed, del, isNilSlice, plain, plainL, cellsJ, junkOk, St.with, setSlots, setObs, wantedD, seqOf, noRange, setAll, Array.size, te, einl, inls]
    simp_all [encRes]
  · simp only [List.length_reverse] at g1 g2
    have g5 : xs[xs.length - 1 - pre.length]? = some x := by rw [← g3, List.getElem?_reverse g2]
    have g6 : (xs.length : Int) - 1 - pre.length = ((xs.length - 1 - pre.length : Nat) : Int) := by omega
    have g7 : xs.reverse.length = xs.length := by simp
    have hroom : roomy (pre.length + 1) 32 = true := by simp [roomy]; omega
    have hbig : pre.length + 1 ≤ 4294967296 := by omega
    simp (maxSteps := 1000000) (implicitDefEqProofs := false) (disch := omega) only [g1, g2, g5, g6, Int.natCast_nonneg, Int.toNat_natCast, List.getElem?_map, encRun, hroom, hbig, wrap_in, ss, List.replicate, evOp, evPlain, evVal, evMem, St.eval, St.put, St.get, constV, List.set, lenV, sliceOf, arrayOf, fieldsOf, normOf, norm, firstRegion, look, maskFrom, evBin, evIndexS, evLoad, evVar, evStore, evFieldAddr, nameOf, St.alloc, St.drop, killL, kill, killAll, killObs, killOb, upd, cells?, part, retag, retagL, putIn, refFree, refFreeL, isNew, isNewL, Ty.isAgg, splice, idsL, ids, idsLL, reach, depth, St.dropL, resultsV, resultV, ↓reduceIte, Nat.reduceBEq, Nat.reduceAdd, Nat.reduceSub, Nat.reduceMul, Nat.reduceEqDiff, Nat.reduceLeDiff, Nat.reduceLT, effOf, effMem, effStore, effCall, effVar, effLit, effMake, effApp, Eff.ap, lend, evLit, evMake, evNil, freeze, onto, dropO, elemsV, sized, evCmp, eqT, eqG, minV, evUn, evField, evExtract, evIndexA, evIndexV, evSlice, optInt, fillV, placeOf, thawed, del, isNilSlice, plain, plainL, cellsJ, junkOk, St.with, setSlots, setObs, wantedD, seqOf, noRange, setAll, Array.size, te, einl, inls]
    simp [encRun]
    omega

end Go.AM.A
end

section
namespace Go.AM.A
open Go Go.Proofs

def isYes : Option V → Bool
  | some (.bool true) => true
  | _ => false

theorem isYes_eq {r : Option V} (h : isYes r = true) : r = some (.bool true) := by
  unfold isYes at h
  split at h
  · rfl
  · cases h

theorem known_yes : isYes ((orc E X0 60).call 17 []) = true := by decide +kernel

theorem c17 : (orcω E X0).call 17 [] = some (.bool true) := (orcω_le 60).call _ _ _ (isYes_eq known_yes)

theorem normal_le (rs : List Run) : (normal rs).1.length ≤ rs.length := by
  unfold normal finished
  split
  · split
    · exact Nat.zero_le _
    · exact joined_le rs
  · exact Nat.zero_le _

theorem c3 (rs : List Run) : (orcω E X0).call 3 [.sl false (rs.map encRun)] = some (.bool true) := by
  refine call_of rfl fn3 rfl ?_
  have h16 := c16 false rs
  by_cases hlong : (100 : Int) < rs.length
  · simp only [hlong, decide_true] at h16
    simp only [Try.ntmps3, Try.results3, efc3, fc3, h16, c17, Option.getD_some, List.replicate, List.cons_append, List.nil_append, den_seq, den_region, den_block, den_cond, den_skip, den_ret, den_exit, evOps, evOp, evPlain, evVal, evMem, wantedV, St.eval, St.put, St.get, constV, List.set, List.getD_cons_zero, List.getD_cons_succ, Bool.false_eq_true, if_false, List.contains_nil, Bool.false_and, normally_some, andThen_normal, andThen_exit, andThen_ret, atBlock_normal, atBlock_exit, atBlock_ret, lenV, sliceOf, arrayOf, fieldsOf, onBool_true, onBool_false, after_normal, after_exit, after_ret, normOf, norm, firstRegion, look, maskFrom, evBin, evIndexS, evLoad, evVar, evStore, evFieldAddr, nameOf, St.alloc, St.drop, killL, kill, killAll, killObs, killOb, upd, cells?, part, retag, retagL, putIn, refFree, refFreeL, isNew, isNewL, Ty.isAgg, splice, idsL, ids, idsLL, reach, depth, St.dropL, outOfCall_some, atEnd_normal, atEnd_ret, resultsV, resultV, allM_nil, allM_cons, resolve_int, resolve_bool, resolve_lit, resolve_sl, resolve_fp, resolve_emp, resolve_agg, resolve_tup, resolve_clo, resolve_own, Option.map_some, Option.map_none, List.length_cons, List.length_nil, List.length_map, ↓reduceIte, List.contains_cons, Bool.or_false, Bool.false_or, Bool.or_true, Bool.true_or, Nat.reduceBEq, beq_self_eq_true, List.map_cons, List.map_nil, List.filter_cons, List.filter_nil, List.flatMap_cons, List.flatMap_nil, Bool.not_true, Bool.not_false, and_self, and_true, true_and, List.getElem?_cons_zero, List.getElem?_cons_succ, List.getElem?_nil, List.drop_succ_cons, List.drop_zero, List.take_succ_cons, List.take_zero, List.drop_nil, List.take_nil, List.append_nil, Nat.reduceAdd, Nat.reduceSub, Nat.reduceMul, Nat.reduceEqDiff, Nat.reduceLeDiff, Nat.le_refl, Option.getD_none, Bool.and_true, Bool.true_and, Bool.and_false, Bool.and_self, Nat.lt_irrefl, Nat.reduceLT, Nat.zero_add, evRegion_still, evE, effOf, effMem, effStore, effCall, effVar, effLit, effMake, effApp, Eff.ap, evCall, lend, evAppend, evLit, evMake, evNil, freeze, onto, dropO, elemsV, sized, evCmp, eqT, eqG, minV, evUn, evField, evExtract, evIndexA, evIndexV, evSlice, optInt, fillV, placeOf, thawed, del, List.contains_append, Option.bind_none, Option.bind_some, Bool.and_eq_true, decide_true, decide_false, Bool.not_eq_true', List.take_length, List.range_succ, List.range_zero, Option.some.injEq, ne_eq, not_false_eq_true, not_true_eq_false, List.all_cons, List.all_nil, isNilSlice, List.getElem?_toArray, beqT, beqF, Bool.cond_true, Bool.cond_false, or_self, true_or, or_true, or_false, false_or, plain, plainL, ask_true, ask_false, pickV_true, pickV_false, resolve_ptr, cellsJ, junkOk, te, einl, inls]
  simp only [hlong, decide_false] at h16
  have hn : rs.length ≤ 1000000000 := by omega
  have h18 := c18 false rs hn
  have h19 := c19 false rs hn
  have h20 := c20 false rs hn
  have h21 := c21 false rs hn
  have h22 := c22 false rs hn
  have h23 := c23 false rs hn
  have h24 := c24 false rs hn
  have h25 := c25 false false rs rs hn
  have hle := normal_le rs
  generalize normal rs = N at *
  obtain ⟨ns, e⟩ := N
  dsimp only at hle
  have h25' := c25 false false ns ns (by omega)
  have h26 := fun b outer objs => c26 b 20 outer objs ns (by omega) false
  generalize lengthM rs = M at *
  obtain ⟨l, el⟩ := M
  simp only [decide_true] at h25 h25'
  simp only [encRes, encLen] at h19 h20 h21 h22
  simp only [Try.ntmps3, Try.results3, efc3, fc3, h16, h18, h19, h20, h21, h22, h23, h24, h25, h25', h26, c17, take_map, refFree_runs, plain_runs, sized_runs, Option.getD_some, List.replicate, List.cons_append, List.nil_append, den_seq, den_region, den_block, den_cond, den_skip, den_ret, den_exit, evOps, evOp, evPlain, evVal, evMem, wantedV, St.eval, St.put, St.get, constV, List.set, List.getD_cons_zero, List.getD_cons_succ, Bool.false_eq_true, if_false, List.contains_nil, Bool.false_and, normally_some, andThen_normal, andThen_exit, andThen_ret, atBlock_normal, atBlock_exit, atBlock_ret, lenV, sliceOf, arrayOf, fieldsOf, onBool_true, onBool_false, after_normal, after_exit, after_ret, normOf, norm, firstRegion, look, maskFrom, evBin, evIndexS, evLoad, evVar, evStore, evFieldAddr, nameOf, St.alloc, St.drop, killL, kill, killAll, killObs, killOb, upd, cells?, part, retag, retagL, putIn, refFree, refFreeL, isNew, isNewL, Ty.isAgg, splice, idsL, ids, idsLL, reach, depth, St.dropL, outOfCall_some, atEnd_normal, atEnd_ret, resultsV, resultV, allM_nil, allM_cons, resolve_int, resolve_bool, resolve_lit, resolve_sl, resolve_fp, resolve_emp, resolve_agg, resolve_tup, resolve_clo, resolve_own, Option.map_some, Option.map_none, List.length_cons, List.length_nil, List.length_map, ↓reduceIte, List.contains_cons, Bool.or_false, Bool.false_or, Bool.or_true, Bool.true_or, Nat.reduceBEq, beq_self_eq_true, List.map_cons, List.map_nil, List.filter_cons, List.filter_nil, List.flatMap_cons, List.flatMap_nil, Bool.not_true, Bool.not_false, and_self, and_true, true_and, List.getElem?_cons_zero, List.getElem?_cons_succ, List.getElem?_nil, List.drop_succ_cons, List.drop_zero, List.take_succ_cons, List.take_zero, List.drop_nil, List.take_nil, List.append_nil, Nat.reduceAdd, Nat.reduceSub, Nat.reduceMul, Nat.reduceEqDiff, Nat.reduceLeDiff, Nat.le_refl, Option.getD_none, Bool.and_true, Bool.true_and, Bool.and_false, Bool.and_self, Nat.lt_irrefl, Nat.reduceLT, Nat.zero_add, evRegion_still, evE, effOf, effMem, effStore, effCall, effVar, effLit, effMake, effApp, Eff.ap, evCall, lend, evAppend, evLit, evMake, evNil, freeze, onto, dropO, elemsV, sized, evCmp, eqT, eqG, minV, evUn, evField, evExtract, evIndexA, evIndexV, evSlice, optInt, fillV, placeOf, thawed, del, List.contains_append, Option.bind_none, Option.bind_some, Bool.and_eq_true, decide_true, decide_false, Bool.not_eq_true', List.take_length, List.range_succ, List.range_zero, Option.some.injEq, ne_eq, not_false_eq_true, not_true_eq_false, List.all_cons, List.all_nil, isNilSlice, List.getElem?_toArray, beqT, beqF, Bool.cond_true, Bool.cond_false, or_self, true_or, or_true, or_false, false_or, plain, plainL, ask_true, ask_false, pickV_true, pickV_false, resolve_ptr, cellsJ, junkOk, te, einl, inls]

end Go.AM.A
end

section
namespace Go.AM.A
open Go Go.Proofs

theorem joinR_eq {rs : List Run} (h : ∀ r ∈ rs, r.len ≠ 0) : joinR rs = joinedL rs := by
  rw [joinR_filter]
  congr 1
  rw [List.filter_eq_self]
  intro r hr
  simpa using h r hr

theorem valid_pos {rs : List Run} (h : validate rs = 0) : ∀ r ∈ rs, r.len ≠ 0 := fun r hr => well_pos (List.all_eq_true.1 (valid_all h) r hr)

theorem both_zero {xs ys : List Run} (h : both xs ys = 0) : validate xs = 0 ∧ validate ys = 0 := by
  unfold both at h
  split at h
  · exact ⟨by assumption, h⟩
  · exact absurd h (by assumption)

def joinM (xs ys : List Run) : List Run × Int := if both xs ys = 0 then finished (joinedL (xs ++ ys)) else ([], both xs ys)
def revM (xs : List Run) : List Run × Int := if validate xs = 0 then finished (joinedL xs.reverse) else ([], validate xs)

theorem d28 (xs ys : List Run) (hn : xs.length ≤ 100000) (hm : ys.length ≤ 100000) : (orcω E X0).call 28 [.sl false (xs.map encRun), .sl false (ys.map encRun)] = some (encRes (joinM xs ys)) := by
  rw [c28 xs ys hn hm, joinM]
  by_cases h : both xs ys = 0
  · rw [if_pos h, if_pos h, joinR_eq]
    intro r hr
    rcases List.mem_append.1 hr with hr | hr
    · exact valid_pos (both_zero h).1 r hr
    · exact valid_pos (both_zero h).2 r hr
  · rw [if_neg h, if_neg h]

theorem d30 (xs : List Run) (hn : xs.length ≤ 100000) : (orcω E X0).call 30 [.sl false (xs.map encRun)] = some (encRes (revM xs)) := by
  rw [c30 xs hn, revM]
  by_cases h : validate xs = 0
  · rw [if_pos h, if_pos h, joinR_eq]
    intro r hr
    exact valid_pos h r (List.mem_reverse.1 hr)
  · rw [if_neg h, if_neg h]

theorem finished_le (js : List Run) : (finished js).1.length ≤ js.length := by
  unfold finished
  split
  · exact Nat.zero_le _
  · exact Nat.le_refl _

theorem joinM_le (xs ys : List Run) : (joinM xs ys).1.length ≤ xs.length + ys.length := by
  unfold joinM
  split
  · refine Nat.le_trans (finished_le _) (Nat.le_trans (joined_le _) ?_)
    simp
  · exact Nat.zero_le _

theorem revM_le (xs : List Run) : (revM xs).1.length ≤ xs.length := by
  unfold revM
  split
  · refine Nat.le_trans (finished_le _) (Nat.le_trans (joined_le _) ?_)
    simp
  · exact Nat.zero_le _

theorem c4 (xs ys : List Run) : (orcω E X0).call 4 [.sl false (xs.map encRun), .sl false (ys.map encRun)] = some (.bool true) := by
  refine call_of rfl fn4 rfl ?_
  have k1 := c16 false xs
  have k2 := c16 false ys
  by_cases hx : (100 : Int) < xs.length
  · simp only [hx, decide_true] at k1
    simp (maxSteps := 1000000) (implicitDefEqProofs := false) only [Try.ntmps4, Try.results4, efc4, fc4, k1, c17, ss, List.replicate, evOp, evPlain, evVal, evMem, St.eval, St.put, St.get, constV, List.set, lenV, sliceOf, arrayOf, fieldsOf, normOf, norm, firstRegion, look, maskFrom, evBin, evIndexS, evLoad, evVar, evStore, evFieldAddr, nameOf, St.alloc, St.drop, killL, kill, killAll, killObs, killOb, upd, cells?, part, retag, retagL, putIn, refFree, refFreeL, isNew, isNewL, Ty.isAgg, splice, idsL, ids, idsLL, reach, depth, St.dropL, resultsV, resultV, ↓reduceIte, Nat.reduceBEq, Nat.reduceAdd, Nat.reduceSub, Nat.reduceMul, Nat.reduceEqDiff, Nat.reduceLeDiff, Nat.reduceLT, effOf, effMem, effStore, effCall, effVar, effLit, effMake, effApp, Eff.ap, lend, evLit, evMake, evNil, freeze, onto, dropO, elemsV, sized, evCmp, eqT, eqG, minV, evUn, evField, evExtract, evIndexA, evIndexV, evSlice, optInt, fillV, placeOf, thawed, del, isNilSlice, plain, plainL, cellsJ, junkOk, St.with, setSlots, setObs, wantedD, seqOf, noRange, setAll, Array.size, te, einl, inls]
  by_cases hy : (100 : Int) < ys.length
  · simp only [hx, hy, decide_true, decide_false] at k1 k2
    simp (maxSteps := 1000000) (implicitDefEqProofs := false) only [Try.ntmps4, Try.results4, efc4, fc4, k1, k2, c17, ss, List.replicate, evOp, evPlain, evVal, evMem, St.eval, St.put, St.get, constV, List.set, lenV, sliceOf, arrayOf, fieldsOf, normOf, norm, firstRegion, look, maskFrom, evBin, evIndexS, evLoad, evVar, evStore, evFieldAddr, nameOf, St.alloc, St.drop, killL, kill, killAll, killObs, killOb, upd, cells?, part, retag, retagL, putIn, refFree, refFreeL, isNew, isNewL, Ty.isAgg, splice, idsL, ids, idsLL, reach, depth, St.dropL, resultsV, resultV, ↓reduceIte, Nat.reduceBEq, Nat.reduceAdd, Nat.reduceSub, Nat.reduceMul, Nat.reduceEqDiff, Nat.reduceLeDiff, Nat.reduceLT, effOf, effMem, effStore, effCall, effVar, effLit, effMake, effApp, Eff.ap, lend, evLit, evMake, evNil, freeze, onto, dropO, elemsV, sized, evCmp, eqT, eqG, minV, evUn, evField, evExtract, evIndexA, evIndexV, evSlice, optInt, fillV, placeOf, thawed, del, isNilSlice, plain, plainL, cellsJ, junkOk, St.with, setSlots, setObs, wantedD, seqOf, noRange, setAll, Array.size, te, einl, inls]
  simp only [hx, hy, decide_false] at k1 k2
  have k3 := c18 false xs (by omega)
  have k4 := c18 false ys (by omega)
  have k5 := c27 xs ys (by omega) (by omega)
  have k6 := d28 xs ys (by omega) (by omega)
  have k7 := c29 xs (by omega)
  have k8 := d30 xs (by omega)
  change _ = some (encRes (joinM xs ys)) at k5
  change _ = some (encRes (revM xs)) at k7
  have l1 := joinM_le xs ys
  have l2 := revM_le xs
  generalize joinM xs ys = J at *
  generalize revM xs = R at *
  obtain ⟨js, je⟩ := J
  obtain ⟨rs, re⟩ := R
  dsimp only at l1 l2
  have s1 := c25 false false js js (by omega)
  have s2 := c25 false false rs rs (by omega)
  have s3 := c25 false false xs xs (by omega)
  have s4 := c25 false false ys ys (by omega)
  have p1 := fun b id outer objs => c26 b id outer objs js (by omega) false
  have p2 := fun b id outer objs => c26 b id outer objs rs (by omega) false
  simp only [decide_true] at s1 s2 s3 s4
  simp only [encRes] at k5 k6 k7 k8
  simp (maxSteps := 1000000) (implicitDefEqProofs := false) only [Try.ntmps4, Try.results4, efc4, fc4, k1, k2, k3, k4, k5, k6, k7, k8, s1, s2, s3, s4, p1, p2, c17, refFree_runs, plain_runs, sized_runs, ss, List.replicate, evOp, evPlain, evVal, evMem, St.eval, St.put, St.get, constV, List.set, lenV, sliceOf, arrayOf, fieldsOf, normOf, norm, firstRegion, look, maskFrom, evBin, evIndexS, evLoad, evVar, evStore, evFieldAddr, nameOf, St.alloc, St.drop, killL, kill, killAll, killObs, killOb, upd, cells?, part, retag, retagL, putIn, refFree, refFreeL, isNew, isNewL, Ty.isAgg, splice, idsL, ids, idsLL, reach, depth, St.dropL, resultsV, resultV, ↓reduceIte, Nat.reduceBEq, Nat.reduceAdd, Nat.reduceSub, Nat.reduceMul, Nat.reduceEqDiff, Nat.reduceLeDiff, Nat.reduceLT, effOf, effMem, effStore, effCall, effVar, effLit, effMake, effApp, Eff.ap, lend, evLit, evMake, evNil, freeze, onto, dropO, elemsV, sized, evCmp, eqT, eqG, minV, evUn, evField, evExtract, evIndexA, evIndexV, evSlice, optInt, fillV, placeOf, thawed, del, isNilSlice, plain, plainL, cellsJ, junkOk, St.with, setSlots, setObs, wantedD, seqOf, noRange, setAll, Array.size, te, einl, inls]

end Go.AM.A
end

section
/-
Loops over band.each.
-/
namespace Go.AM.A
open Go Go.Proofs

def spansL : Int → List Run → List (Int × List Int)
  | _, [] => []
  | a, r :: rs => (a, [r.len, r.thick, r.shade, r.flaw]) :: spansL (IntKind.i64.wrap (a + r.len)) rs

theorem spansOf_runs : ∀ (rs : List Run) (a : Int), spansOf a (rs.map encRun) = some (spansL a rs)
  | [], _ => rfl
  | r :: rs, a => by
    rw [List.map_cons, encRun]
    simp only [spansOf, intsOf, spansOf_runs rs, spansL]

theorem eseq_each (t u : Bool) (rs : List Run) (hn : rs.length ≤ 1000000000) : E.seq 87 [.fp t [.sl u (rs.map encRun)] 0] = some (2, (spansL 0 rs).map yieldV) := by
  have h : E.seq 87 [.fp t [.sl u (rs.map encRun)] 0] = eachSeq 87 87 [.fp t [.sl u (rs.map encRun)] 0] := rfl
  rw [h]
  unfold eachSeq
  simp only [if_true, List.length_map, if_pos hn, spansOf_runs]

theorem tidy_slots (l l' : List V) (o : List (List V)) (b : List (Nat × Ob)) : tidy { slots := l, outer := o, objs := b } = tidy { slots := l', outer := o, objs := b } := rfl

theorem rounds_runs {σ : Type} {K : Option (Ex × St) → Prop} {run : Code → St → Option (Ex × St)} {ps : List Nat} {assign body : Code} {s0 l0 : List V} {out : List (List V)} {objs : List (Nat × Ob)} (rs : List Run)
    (os : List Run → σ → List (Nat × Ob)) (I : List Run → σ → Prop) (c0 : σ) (h0 : tidy { slots := l0, outer := s0 :: out, objs := objs } = { slots := [], outer := s0 :: out, objs := os [] c0 }) (hI : I [] c0)
    (hend : ∀ c, I rs c → K (some (.normal, { slots := s0, outer := out, objs := os rs c })))
    (hstep : ∀ pre r post c, rs = pre ++ r :: post → I pre c → afterA (run assign { slots := setAll s0 ps [.int .i64 (ln pre), encRun r], outer := s0 :: out, objs := os pre c }) (fun s => afterR (run body s)
      (fun s' => ∃ c', tidy s' = { slots := [], outer := s0 :: out, objs := os (pre ++ [r]) c' } ∧ I (pre ++ [r]) c') K)) :
    ∀ x, popped (roundsIn run ps assign body ((spansL 0 rs).map yieldV) { slots := l0, outer := s0 :: out, objs := objs }) = x → K x := by
  rintro x rfl
  have key : ∀ (post pre : List Run) (c : σ) (st : St), rs = pre ++ post → tidy st = { slots := [], outer := s0 :: out, objs := os pre c } → I pre c → K (popped (roundsIn run ps assign body ((spansL (ln pre) post).map yieldV) st)) := by
    intro post
    induction post with
    | nil =>
      intro pre c st hp ht hi
      obtain rfl : rs = pre := by simpa using hp
      simp only [spansL, List.map_nil, roundsIn, ht]
      exact hend c hi
    | cons r post ih =>
      intro pre c st hp ht hi
      have hs := hstep pre r post c hp hi
      simp only [spansL, List.map_cons, roundsIn, ht, List.headD_cons]
      rw [show yieldV (ln pre, [r.len, r.thick, r.shade, r.flaw]) = [.int .i64 (ln pre), encRun r] from rfl]
      cases ha : run assign { slots := setAll s0 ps [.int .i64 (ln pre), encRun r], outer := s0 :: out, objs := os pre c } with
      | none => rw [ha] at hs; exact hs.elim
      | some p =>
        obtain ⟨e, s⟩ := p
        rw [ha] at hs
        cases e with
        | normal =>
          dsimp only
          rw [afterA_normal] at hs
          cases hb : run body s with
          | none => rw [hb] at hs; exact hs.elim
          | some p =>
            obtain ⟨e, s'⟩ := p
            rw [hb] at hs
            cases e with
            | normal =>
              obtain ⟨c', h1, h3⟩ := hs
              dsimp only
              have hln : ln (pre ++ [r]) = IntKind.i64.wrap (ln pre + r.len) := by simp [ln]
              rw [← hln]
              exact ih (pre ++ [r]) c' s' (by simpa using hp) h1 h3
            | exit i => exact hs
            | ret => exact hs
        | exit i => exact hs.elim
        | ret => exact hs.elim
  exact key rs [] c0 _ rfl h0 hI

theorem c73 (rs : List Run) : (orcω E X0).call 73 [.sl false (rs.map encRun)] = some (.clo 87 [] [.fp false [.sl false (rs.map encRun)] 0]) := by
  refine call_of rfl fn73 rfl ?_
  simp (maxSteps := 1000000) (implicitDefEqProofs := false) only [Try.ntmps73, Try.results73, efc73, ss, List.replicate, evOp, evPlain, evVal, evMem, St.eval, St.put, St.get, constV, List.set, lenV, sliceOf, arrayOf, fieldsOf, normOf, norm, firstRegion, look, maskFrom, evBin, evIndexS, evLoad, evVar, evStore, evFieldAddr, nameOf, St.alloc, St.drop, killL, kill, killAll, killObs, killOb, upd, cells?, part, retag, retagL, putIn, refFree, refFreeL, isNew, isNewL, Ty.isAgg, splice, idsL, ids, idsLL, reach, depth, St.dropL, resultsV, resultV, ↓reduceIte, Nat.reduceBEq, Nat.reduceAdd, Nat.reduceSub, Nat.reduceMul, Nat.reduceEqDiff, Nat.reduceLeDiff, Nat.reduceLT, effOf, effMem, effStore, effCall, effVar, effLit, effMake, effApp, Eff.ap, lend, evLit, evMake, evNil, freeze, onto, dropO, elemsV, sized, evCmp, eqT, eqG, minV, evUn, evField, evExtract, evIndexA, evIndexV, evSlice, optInt, fillV, placeOf, thawed, del, isNilSlice, plain, plainL, cellsJ, junkOk, St.with, setSlots, setObs, wantedD, seqOf, noRange, setAll, Array.size, te, einl, inls]

/-- Lengths that add up to no more than fits. -/
def Okay (rs : List Run) : Prop := (∀ r ∈ rs, 1 ≤ r.len) ∧ total rs ≤ 40000000

theorem okay_app {pre post : List Run} (h : Okay (pre ++ post)) : Okay pre ∧ Okay post := by
  obtain ⟨h1, h2⟩ := h
  rw [total_app] at h2
  have a1 : ∀ r ∈ pre, 1 ≤ r.len := fun r hr => h1 r (List.mem_append_left _ hr)
  have a2 : ∀ r ∈ post, 1 ≤ r.len := fun r hr => h1 r (List.mem_append_right _ hr)
  have nn : ∀ l : List Run, (∀ r ∈ l, 1 ≤ r.len) → 0 ≤ total l := by
    intro l
    induction l with
    | nil => intro _; exact Int.le_refl _
    | cons x l ih =>
      intro h
      have := ih fun r hr => h r (List.mem_cons_of_mem _ hr)
      have := h x List.mem_cons_self
      rw [total_cons]; omega
  have := nn pre a1
  have := nn post a2
  exact ⟨⟨a1, by omega⟩, ⟨a2, by omega⟩⟩

theorem okay_nonneg {rs : List Run} (h : Okay rs) : 0 ≤ total rs := by
  obtain ⟨h1, _⟩ := h
  induction rs with
  | nil => exact Int.le_refl _
  | cons x l ih =>
    have := ih fun r hr => h1 r (List.mem_cons_of_mem _ hr)
    have := h1 x List.mem_cons_self
    rw [total_cons]; omega

theorem okay_lens {rs : List Run} (h : Okay rs) : Lens 40000000 rs := by
  intro r hr
  obtain ⟨a, b, rfl⟩ := List.append_of_mem hr
  have h1 := (okay_app h).1
  have h2 := (okay_app (pre := [r]) (post := b) (okay_app h).2).2
  have h3 := h.2
  rw [total_app, total_cons] at h3
  have := okay_nonneg h1
  have := okay_nonneg h2
  exact ⟨h.1 r hr, by omega⟩

theorem ln_total : ∀ {rs : List Run}, Okay rs → ln rs = total rs := by
  intro rs
  induction rs using snoc_ind with
  | h0 => intro _; rfl
  | h1 l x ih =>
    intro h
    have h1 := (okay_app h).1
    have := okay_nonneg h1
    have h3 := h.2
    rw [total_app, total_cons, total_nil] at h3
    have h4 := h.1 x (by simp)
    have : ln (l ++ [x]) = IntKind.i64.wrap (ln l + x.len) := by simp [ln]
    rw [this, ih h1, total_app, total_cons, total_nil, wrap_in (by omega)]
    omega

theorem expand_len {rs : List Run} (h : Okay rs) : ((expand rs).length : Int) = total rs := expand_length (okay_lens h)

theorem valid_okay {rs : List Run} (h : validate rs = 0) : Okay rs ∧ rs.length ≤ 40 ∧ total rs ≤ 1000000 := by
  have h2 := valid_all h
  have h3 : rs.length ≤ 40 := by
    unfold validate at h
    split at h
    · omega
    · omega
  have h4 : ∀ r ∈ rs, 1 ≤ r.len ∧ r.len ≤ 1000000 := fun r hr => by
    have := List.all_eq_true.1 h2 r hr
    simp [wellB, inB] at this
    omega
  have h5 : total rs ≤ 1000000 * rs.length := by
    clear h h2 h3
    induction rs with
    | nil => exact Int.le_refl _
    | cons x l ih =>
      have := ih fun r hr => h4 r (List.mem_cons_of_mem _ hr)
      have := h4 x List.mem_cons_self
      rw [total_cons, List.length_cons]; omega
  have ho : Okay rs := ⟨fun r hr => (h4 r hr).1, by omega⟩
  refine ⟨ho, h3, ?_⟩
  unfold validate at h
  rw [if_neg (by omega), if_pos h2] at h
  by_cases h6 : 1000000 < ln rs
  · rw [if_pos h6] at h; cases h
  · rw [ln_total ho] at h6; omega
end Go.AM.A
end

section
namespace Go.AM.A
open Go Go.Proofs

def piece (a lo hi : Int) (r : Run) : List Run := if max lo a < min hi (a + r.len) then [{ r with len := min hi (a + r.len) - max lo a }] else []
def cutL (lo hi : Int) : Int → List Run → List Run
  | _, [] => []
  | a, r :: rs => piece a lo hi r ++ cutL lo hi (a + r.len) rs

theorem cutL_snoc (lo hi : Int) (r : Run) : ∀ (pre : List Run) (a : Int), cutL lo hi a (pre ++ [r]) = cutL lo hi a pre ++ piece (a + total pre) lo hi r
  | [], a => by simp [cutL, total]
  | x :: pre, a => by
    simp only [List.cons_append, cutL, cutL_snoc lo hi r pre, total_cons, List.append_assoc, Int.add_assoc]

theorem cutL_len (lo hi : Int) : ∀ (rs : List Run) (a : Int), (cutL lo hi a rs).length ≤ rs.length
  | [], a => Nat.le_refl _
  | x :: rs, a => by
    have := cutL_len lo hi rs (a + x.len)
    have : (piece a lo hi x).length ≤ 1 := by unfold piece; split <;> simp
    simp only [cutL, List.length_append, List.length_cons]; omega

/-- A number of moderate size. -/
def Mod (x : Int) : Prop := -1000000000 ≤ x ∧ x ≤ 1000000000

def outOb (a b : Int) (out : List Run) : List (Nat × Ob) := match out with
  | [] => [(4, { es := 1, flat := true, t := true, app := false, elems := [.int .i64 a] }), (5, { es := 1, flat := true, t := true, app := false, elems := [.int .i64 b] }), (7, { es := 1, flat := true, t := true, app := false, elems := [.emp] })]
  | _ => [(4, { es := 1, flat := true, t := true, app := false, elems := [.int .i64 a] }), (5, { es := 1, flat := true, t := true, app := false, elems := [.int .i64 b] }), (7, { es := 1, flat := false, t := true, app := false, elems := [.own 33 0 out.length] }),
      (33, { es := 4, flat := true, t := true, app := true, elems := out.map encRun })]

theorem outOb_ne {a b : Int} {out : List Run} (h : out ≠ []) : outOb a b out = [(4, { es := 1, flat := true, t := true, app := false, elems := [.int .i64 a] }), (5, { es := 1, flat := true, t := true, app := false, elems := [.int .i64 b] }), (7, { es := 1, flat := false, t := true, app := false, elems := [.own 33 0 out.length] }),
      (33, { es := 4, flat := true, t := true, app := true, elems := out.map encRun })] := by
  cases out with
  | nil => exact absurd rfl h
  | cons _ _ => rfl

theorem c70 (rs : List Run) (lo hi : Int) (ho : Okay rs) (hn : rs.length ≤ 1000000) (hl : Mod lo) (hh : Mod hi) :
    (orcω E X0).call 70 [.sl false (rs.map encRun), .int .i64 lo, .int .i64 hi] = some (.sl true ((cutL lo hi 0 rs).map encRun)) := by
  obtain ⟨l1, l2⟩ := hl
  obtain ⟨l3, l4⟩ := hh
  refine call_of rfl fn70 rfl ?_
  have h1 := c73 rs
  have h2 := eseq_each false false rs (by omega)
  simp (maxSteps := 1000000) (implicitDefEqProofs := false) only [Try.ntmps70, Try.results70, efc70, h1, h2, ss, List.replicate, evOp, evPlain, evVal, evMem, St.eval, St.put, St.get, constV, List.set, lenV, sliceOf, arrayOf, fieldsOf, normOf, norm, firstRegion, look, maskFrom, evBin, evIndexS, evLoad, evVar, evStore, evFieldAddr, nameOf, St.alloc, St.drop, killL, kill, killAll, killObs, killOb, upd, cells?, part, retag, retagL, putIn, refFree, refFreeL, isNew, isNewL, Ty.isAgg, splice, idsL, ids, idsLL, reach, depth, St.dropL, resultsV, resultV, ↓reduceIte, Nat.reduceBEq, Nat.reduceAdd, Nat.reduceSub, Nat.reduceMul, Nat.reduceEqDiff, Nat.reduceLeDiff, Nat.reduceLT, effOf, effMem, effStore, effCall, effVar, effLit, effMake, effApp, Eff.ap, lend, evLit, evMake, evNil, freeze, onto, dropO, elemsV, sized, evCmp, eqT, eqG, minV, evUn, evField, evExtract, evIndexA, evIndexV, evSlice, optInt, fillV, placeOf, thawed, del, isNilSlice, plain, plainL, cellsJ, junkOk, St.with, setSlots, setObs, wantedD, seqOf, noRange, setAll, Array.size, te, einl, inls]
  generalize hr : popped (roundsIn _ _ _ _ _ _) = r; revert r
  refine rounds_runs rs (fun pre _ => outOb lo hi (cutL lo hi 0 pre)) (fun _ (_ : Unit) => True) () ?_ trivial (fun _ _ => ?_) (fun pre r post _ hp _ => ?_)
  · simp (maxSteps := 1000000) (implicitDefEqProofs := false) only [cutL, outOb, ss, List.replicate, evOp, evPlain, evVal, evMem, St.eval, St.put, St.get, constV, List.set, lenV, sliceOf, arrayOf, fieldsOf, normOf, norm, firstRegion, look, maskFrom, evBin, evIndexS, evLoad, evVar, evStore, evFieldAddr, nameOf, St.alloc, St.drop, killL, kill, killAll, killObs, killOb, upd, cells?, part, retag, retagL, putIn, refFree, refFreeL, isNew, isNewL, Ty.isAgg, splice, idsL, ids, idsLL, reach, depth, St.dropL, resultsV, resultV, ↓reduceIte, Nat.reduceBEq, Nat.reduceAdd, Nat.reduceSub, Nat.reduceMul, Nat.reduceEqDiff, Nat.reduceLeDiff, Nat.reduceLT, effOf, effMem, effStore, effCall, effVar, effLit, effMake, effApp, Eff.ap, lend, evLit, evMake, evNil, freeze, onto, dropO, elemsV, sized, evCmp, eqT, eqG, minV, evUn, evField, evExtract, evIndexA, evIndexV, evSlice, optInt, fillV, placeOf, thawed, del, isNilSlice, plain, plainL, cellsJ, junkOk, St.with, setSlots, setObs, wantedD, seqOf, noRange, setAll, Array.size, te, einl, inls]
  · cases hc : cutL lo hi 0 rs with
    | nil => simp (maxSteps := 1000000) (implicitDefEqProofs := false) only [outOb, Try.ntmps70, Try.results70, efc70, ss, List.replicate, evOp, evPlain, evVal, evMem, St.eval, St.put, St.get, constV, List.set, lenV, sliceOf, arrayOf, fieldsOf, normOf, norm, firstRegion, look, maskFrom, evBin, evIndexS, evLoad, evVar, evStore, evFieldAddr, nameOf, St.alloc, St.drop, killL, kill, killAll, killObs, killOb, upd, cells?, part, retag, retagL, putIn, refFree, refFreeL, isNew, isNewL, Ty.isAgg, splice, idsL, ids, idsLL, reach, depth, St.dropL, resultsV, resultV, ↓reduceIte, Nat.reduceBEq, Nat.reduceAdd, Nat.reduceSub, Nat.reduceMul, Nat.reduceEqDiff, Nat.reduceLeDiff, Nat.reduceLT, effOf, effMem, effStore, effCall, effVar, effLit, effMake, effApp, Eff.ap, lend, evLit, evMake, evNil, freeze, onto, dropO, elemsV, sized, evCmp, eqT, eqG, minV, evUn, evField, evExtract, evIndexA, evIndexV, evSlice, optInt, fillV, placeOf, thawed, del, isNilSlice, plain, plainL, cellsJ, junkOk, St.with, setSlots, setObs, wantedD, seqOf, noRange, setAll, Array.size, te, einl, inls]
    | cons x l => simp (maxSteps := 1000000) (implicitDefEqProofs := false) only [outOb, Try.ntmps70, Try.results70, efc70, ss, List.replicate, evOp, evPlain, evVal, evMem, St.eval, St.put, St.get, constV, List.set, lenV, sliceOf, arrayOf, fieldsOf, normOf, norm, firstRegion, look, maskFrom, evBin, evIndexS, evLoad, evVar, evStore, evFieldAddr, nameOf, St.alloc, St.drop, killL, kill, killAll, killObs, killOb, upd, cells?, part, retag, retagL, putIn, refFree, refFreeL, isNew, isNewL, Ty.isAgg, splice, idsL, ids, idsLL, reach, depth, St.dropL, resultsV, resultV, ↓reduceIte, Nat.reduceBEq, Nat.reduceAdd, Nat.reduceSub, Nat.reduceMul, Nat.reduceEqDiff, Nat.reduceLeDiff, Nat.reduceLT, effOf, effMem, effStore, effCall, effVar, effLit, effMake, effApp, Eff.ap, lend, evLit, evMake, evNil, freeze, onto, dropO, elemsV, sized, evCmp, eqT, eqG, minV, evUn, evField, evExtract, evIndexA, evIndexV, evSlice, optInt, fillV, placeOf, thawed, del, isNilSlice, plain, plainL, cellsJ, junkOk, St.with, setSlots, setObs, wantedD, seqOf, noRange, setAll, Array.size, te, einl, inls]
  · have h3 := okay_app (hp ▸ ho)
    have h4 := ln_total h3.1
    have h5 := okay_nonneg h3.1
    have h6 := okay_nonneg h3.2
    have h7 := okay_lens ho r (by rw [hp]; simp)
    have h8 := ho.2
    rw [hp, total_app] at h8
    have h9 := cutL_len lo hi pre 0
    have h10 : pre.length ≤ 1000000 := by rw [hp] at hn; simp at hn; omega
    have e1 : piece (total pre) lo hi r = if max lo (total pre) < min hi (total pre + r.len) then [{ r with len := min hi (total pre + r.len) - max lo (total pre) }] else [] := rfl
    have e2 := cutL_snoc lo hi r pre 0
    rw [Int.zero_add] at e2
    rcases List.eq_nil_or_concat (cutL lo hi 0 pre) with hc | ⟨l', x', hc⟩
    · rw [hc] at e2 ⊢
      simp only [outOb]
      have hroom : roomy 1 32 = true := by simp [roomy]
      simp (maxSteps := 1000000) (implicitDefEqProofs := false) (disch := omega) only [h4, encRun, wrap_in, ss, List.replicate, evOp, evPlain, evVal, evMem, St.eval, St.put, St.get, constV, List.set, lenV, sliceOf, arrayOf, fieldsOf, normOf, norm, firstRegion, look, maskFrom, evBin, evIndexS, evLoad, evVar, evStore, evFieldAddr, nameOf, St.alloc, St.drop, killL, kill, killAll, killObs, killOb, upd, cells?, part, retag, retagL, putIn, refFree, refFreeL, isNew, isNewL, Ty.isAgg, splice, idsL, ids, idsLL, reach, depth, St.dropL, resultsV, resultV, ↓reduceIte, Nat.reduceBEq, Nat.reduceAdd, Nat.reduceSub, Nat.reduceMul, Nat.reduceEqDiff, Nat.reduceLeDiff, Nat.reduceLT, effOf, effMem, effStore, effCall, effVar, effLit, effMake, effApp, Eff.ap, lend, evLit, evMake, evNil, freeze, onto, dropO, elemsV, sized, evCmp, eqT, eqG, minV, evUn, evField, evExtract, evIndexA, evIndexV, evSlice, optInt, fillV, placeOf, thawed, del, isNilSlice, plain, plainL, cellsJ, junkOk, St.with, setSlots, setObs, wantedD, seqOf, noRange, setAll, Array.size, te, einl, inls]
      (repeat' (rewrite [ask_to]; generalize hb : ask2 _ = w; rcases ask_cases hb with ⟨hc, rfl⟩ | ⟨hc, rfl⟩ <;> clear hb <;> (try simp (maxSteps := 1000000) (implicitDefEqProofs := false) (disch := omega) only [h4, encRun, hroom, wrap_in, ss, List.replicate, evOp, evPlain, evVal, evMem, St.eval, St.put, St.get, constV, List.set, lenV, sliceOf, arrayOf, fieldsOf, normOf, norm, firstRegion, look, maskFrom, evBin, evIndexS, evLoad, evVar, evStore, evFieldAddr, nameOf, St.alloc, St.drop, killL, kill, killAll, killObs, killOb, upd, cells?, part, retag, retagL, putIn, refFree, refFreeL, isNew, isNewL, Ty.isAgg, splice, idsL, ids, idsLL, reach, depth, St.dropL, resultsV, resultV, ↓reduceIte, Nat.reduceBEq, Nat.reduceAdd, Nat.reduceSub, Nat.reduceMul, Nat.reduceEqDiff, Nat.reduceLeDiff, Nat.reduceLT, effOf, effMem, effStore, effCall, effVar, effLit, effMake, effApp, Eff.ap, lend, evLit, evMake, evNil, freeze, onto, dropO, elemsV, sized, evCmp, eqT, eqG, minV, evUn, evField, evExtract, evIndexA, evIndexV, evSlice, optInt, fillV, placeOf, thawed, del, isNilSlice, plain, plainL, cellsJ, junkOk, St.with, setSlots, setObs, wantedD, seqOf, noRange, setAll, Array.size, te, einl, inls])))
      · rw [e2, e1, if_pos (by simp at hc; omega)]
        simp [outOb, encRun]
      · rw [e2, e1, if_neg (by simp at hc; omega)]
        simp [outOb]
    · have hne : cutL lo hi 0 pre ≠ [] := by rw [hc]; simp
      generalize cutL lo hi 0 pre = out at *
      rw [outOb_ne hne]
      have hroom : roomy (out.length + 1) 32 = true := by simp [roomy]; omega
      have hbig : out.length + 1 ≤ 4294967296 := by omega
      simp (maxSteps := 1000000) (implicitDefEqProofs := false) (disch := omega) only [h4, encRun, wrap_in, ss, List.replicate, evOp, evPlain, evVal, evMem, St.eval, St.put, St.get, constV, List.set, lenV, sliceOf, arrayOf, fieldsOf, normOf, norm, firstRegion, look, maskFrom, evBin, evIndexS, evLoad, evVar, evStore, evFieldAddr, nameOf, St.alloc, St.drop, killL, kill, killAll, killObs, killOb, upd, cells?, part, retag, retagL, putIn, refFree, refFreeL, isNew, isNewL, Ty.isAgg, splice, idsL, ids, idsLL, reach, depth, St.dropL, resultsV, resultV, ↓reduceIte, Nat.reduceBEq, Nat.reduceAdd, Nat.reduceSub, Nat.reduceMul, Nat.reduceEqDiff, Nat.reduceLeDiff, Nat.reduceLT, effOf, effMem, effStore, effCall, effVar, effLit, effMake, effApp, Eff.ap, lend, evLit, evMake, evNil, freeze, onto, dropO, elemsV, sized, evCmp, eqT, eqG, minV, evUn, evField, evExtract, evIndexA, evIndexV, evSlice, optInt, fillV, placeOf, thawed, del, isNilSlice, plain, plainL, cellsJ, junkOk, St.with, setSlots, setObs, wantedD, seqOf, noRange, setAll, Array.size, te, einl, inls]
      (repeat' (rewrite [ask_to]; generalize hb : ask2 _ = w; rcases ask_cases hb with ⟨hc, rfl⟩ | ⟨hc, rfl⟩ <;> clear hb <;> (try simp (maxSteps := 1000000) (implicitDefEqProofs := false) (disch := omega) only [h4, encRun, hroom, hbig, wrap_in, ss, List.replicate, evOp, evPlain, evVal, evMem, St.eval, St.put, St.get, constV, List.set, lenV, sliceOf, arrayOf, fieldsOf, normOf, norm, firstRegion, look, maskFrom, evBin, evIndexS, evLoad, evVar, evStore, evFieldAddr, nameOf, St.alloc, St.drop, killL, kill, killAll, killObs, killOb, upd, cells?, part, retag, retagL, putIn, refFree, refFreeL, isNew, isNewL, Ty.isAgg, splice, idsL, ids, idsLL, reach, depth, St.dropL, resultsV, resultV, ↓reduceIte, Nat.reduceBEq, Nat.reduceAdd, Nat.reduceSub, Nat.reduceMul, Nat.reduceEqDiff, Nat.reduceLeDiff, Nat.reduceLT, effOf, effMem, effStore, effCall, effVar, effLit, effMake, effApp, Eff.ap, lend, evLit, evMake, evNil, freeze, onto, dropO, elemsV, sized, evCmp, eqT, eqG, minV, evUn, evField, evExtract, evIndexA, evIndexV, evSlice, optInt, fillV, placeOf, thawed, del, isNilSlice, plain, plainL, cellsJ, junkOk, St.with, setSlots, setObs, wantedD, seqOf, noRange, setAll, Array.size, te, einl, inls])))
      · rw [e2, e1, if_pos (by simp at hc; omega), outOb_ne (by simp)]
        simp [encRun]
      · rw [e2, e1, if_neg (by simp at hc; omega), List.append_nil, outOb_ne hne]
        simp

theorem okT72 : okCode (Try.f72.body.getD .skip) = true := by decide +kernel

theorem c72 (rs : List Run) (lo hi : Int) (ho : Okay rs) (hn : rs.length ≤ 1000000) (hl : Mod lo) (hh : Mod hi) :
    (orcω E X0).call 72 [.sl false (rs.map encRun), .int .i64 lo, .int .i64 hi] = some (.sl true ((cutL lo hi 0 rs).map encRun)) := by
  obtain ⟨l1, l2⟩ := hl
  obtain ⟨l3, l4⟩ := hh
  refine call_of rfl fn72 rfl ?_
  have hok := okT72
  simp only [Try.f72, Option.getD_some, okCode, Bool.and_eq_true, Bool.and_true, Bool.true_and] at hok
  simp (maxSteps := 1000000) (implicitDefEqProofs := false) only [Try.ntmps72, Try.results72, efc72, fc72, ss, List.replicate, evOp, evPlain, evVal, evMem, St.eval, St.put, St.get, constV, List.set, lenV, sliceOf, arrayOf, fieldsOf, normOf, norm, firstRegion, look, maskFrom, evBin, evIndexS, evLoad, evVar, evStore, evFieldAddr, nameOf, St.alloc, St.drop, killL, kill, killAll, killObs, killOb, upd, cells?, part, retag, retagL, putIn, refFree, refFreeL, isNew, isNewL, Ty.isAgg, splice, idsL, ids, idsLL, reach, depth, St.dropL, resultsV, resultV, ↓reduceIte, Nat.reduceBEq, Nat.reduceAdd, Nat.reduceSub, Nat.reduceMul, Nat.reduceEqDiff, Nat.reduceLeDiff, Nat.reduceLT, effOf, effMem, effStore, effCall, effVar, effLit, effMake, effApp, Eff.ap, lend, evLit, evMake, evNil, freeze, onto, dropO, elemsV, sized, evCmp, eqT, eqG, minV, evUn, evField, evExtract, evIndexA, evIndexV, evSlice, optInt, fillV, placeOf, thawed, del, isNilSlice, plain, plainL, cellsJ, junkOk, St.with, setSlots, setObs, wantedD, seqOf, noRange, setAll, Array.size, te, einl, inls]
  generalize hr : loopAt _ _ _ _ _ _ = r; revert r
  refine loop_list rs (fun pre _ => [(7, .own 7 0 (cutL lo hi 0 pre).length), (8, .int .i64 (total pre)), (9, .int .i64 pre.length)]) (fun pre _ => [(7, { es := 4, flat := true, t := true, app := true, elems := (cutL lo hi 0 pre).map encRun })])
    (fun _ (_ : Unit) => True) () (by omega) (by simp (maxSteps := 1000000) (implicitDefEqProofs := false) only [cutL, total_nil, ss, List.replicate, evOp, evPlain, evVal, evMem, St.eval, St.put, St.get, constV, List.set, lenV, sliceOf, arrayOf, fieldsOf, normOf, norm, firstRegion, look, maskFrom, evBin, evIndexS, evLoad, evVar, evStore, evFieldAddr, nameOf, St.alloc, St.drop, killL, kill, killAll, killObs, killOb, upd, cells?, part, retag, retagL, putIn, refFree, refFreeL, isNew, isNewL, Ty.isAgg, splice, idsL, ids, idsLL, reach, depth, St.dropL, resultsV, resultV, ↓reduceIte, Nat.reduceBEq, Nat.reduceAdd, Nat.reduceSub, Nat.reduceMul, Nat.reduceEqDiff, Nat.reduceLeDiff, Nat.reduceLT, effOf, effMem, effStore, effCall, effVar, effLit, effMake, effApp, Eff.ap, lend, evLit, evMake, evNil, freeze, onto, dropO, elemsV, sized, evCmp, eqT, eqG, minV, evUn, evField, evExtract, evIndexA, evIndexV, evSlice, optInt, fillV, placeOf, thawed, del, isNilSlice, plain, plainL, cellsJ, junkOk, St.with, setSlots, setObs, wantedD, seqOf, noRange, setAll, Array.size, te, einl, inls]) trivial (fun _ _ => ?_) (fun pre r post _ hp _ g1 g2 g3 g4 => ?_)
  · simp (maxSteps := 1000000) (implicitDefEqProofs := false) only [Int.lt_irrefl, Try.ntmps72, Try.results72, efc72, fc72, ss, List.replicate, evOp, evPlain, evVal, evMem, St.eval, St.put, St.get, constV, List.set, lenV, sliceOf, arrayOf, fieldsOf, normOf, norm, firstRegion, look, maskFrom, evBin, evIndexS, evLoad, evVar, evStore, evFieldAddr, nameOf, St.alloc, St.drop, killL, kill, killAll, killObs, killOb, upd, cells?, part, retag, retagL, putIn, refFree, refFreeL, isNew, isNewL, Ty.isAgg, splice, idsL, ids, idsLL, reach, depth, St.dropL, resultsV, resultV, ↓reduceIte, Nat.reduceBEq, Nat.reduceAdd, Nat.reduceSub, Nat.reduceMul, Nat.reduceEqDiff, Nat.reduceLeDiff, Nat.reduceLT, effOf, effMem, effStore, effCall, effVar, effLit, effMake, effApp, Eff.ap, lend, evLit, evMake, evNil, freeze, onto, dropO, elemsV, sized, evCmp, eqT, eqG, minV, evUn, evField, evExtract, evIndexA, evIndexV, evSlice, optInt, fillV, placeOf, thawed, del, isNilSlice, plain, plainL, cellsJ, junkOk, St.with, setSlots, setObs, wantedD, seqOf, noRange, setAll, Array.size, te, einl, inls]
  · have h3 := okay_app (hp ▸ ho)
    have h5 := okay_nonneg h3.1
    have h6 := okay_nonneg h3.2
    have h7 := okay_lens ho r (by rw [hp]; simp)
    have h8 := ho.2
    rw [hp, total_app] at h8
    have h9 := cutL_len lo hi pre 0
    have e2 := cutL_snoc lo hi r pre 0
    rw [Int.zero_add] at e2
    have f1 : max lo (total pre) < min hi (total pre + r.len) → piece (total pre) lo hi r = [{ r with len := min hi (total pre + r.len) - max lo (total pre) }] := fun h => if_pos h
    have f2 : ¬ max lo (total pre) < min hi (total pre + r.len) → piece (total pre) lo hi r = [] := fun h => if_neg h
    have e3 : total (pre ++ [r]) = total pre + r.len := by rw [total_app, total_cons, total_nil]; omega
    generalize cutL lo hi 0 pre = out at *
    have hroom : roomy (out.length + 1) 32 = true := by simp [roomy]; omega
    have hbig : out.length + 1 ≤ 4294967296 := by omega
    simp (maxSteps := 1000000) (implicitDefEqProofs := false) (disch := omega) only [g1, g2, g3, Int.natCast_nonneg, Int.toNat_natCast, List.getElem?_map, encRun, hok, evRegion_st, hroom, hbig, wrap_in, ss, List.replicate, evOp, evPlain, evVal, evMem, St.eval, St.put, St.get, constV, List.set, lenV, sliceOf, arrayOf, fieldsOf, normOf, norm, firstRegion, look, maskFrom, evBin, evIndexS, evLoad, evVar, evStore, evFieldAddr, nameOf, St.alloc, St.drop, killL, kill, killAll, killObs, killOb, upd, cells?, part, retag, retagL, putIn, refFree, refFreeL, isNew, isNewL, Ty.isAgg, splice, idsL, ids, idsLL, reach, depth, St.dropL, resultsV, resultV, ↓reduceIte, Nat.reduceBEq, Nat.reduceAdd, Nat.reduceSub, Nat.reduceMul, Nat.reduceEqDiff, Nat.reduceLeDiff, Nat.reduceLT, effOf, effMem, effStore, effCall, effVar, effLit, effMake, effApp, Eff.ap, lend, evLit, evMake, evNil, freeze, onto, dropO, elemsV, sized, evCmp, eqT, eqG, minV, evUn, evField, evExtract, evIndexA, evIndexV, evSlice, optInt, fillV, placeOf, thawed, del, isNilSlice, plain, plainL, cellsJ, junkOk, St.with, setSlots, setObs, wantedD, seqOf, noRange, setAll, Array.size, te, einl, inls]
    (repeat' (rewrite [ask_to]; generalize hb : ask2 _ = w; rcases ask_cases hb with ⟨hc, rfl⟩ | ⟨hc, rfl⟩ <;> clear hb <;> (try simp (maxSteps := 1000000) (implicitDefEqProofs := false) (disch := omega) only [g1, g2, g3, Int.natCast_nonneg, Int.toNat_natCast, List.getElem?_map, encRun, hok, evRegion_st, hroom, hbig, wrap_in, ss, List.replicate, evOp, evPlain, evVal, evMem, St.eval, St.put, St.get, constV, List.set, lenV, sliceOf, arrayOf, fieldsOf, normOf, norm, firstRegion, look, maskFrom, evBin, evIndexS, evLoad, evVar, evStore, evFieldAddr, nameOf, St.alloc, St.drop, killL, kill, killAll, killObs, killOb, upd, cells?, part, retag, retagL, putIn, refFree, refFreeL, isNew, isNewL, Ty.isAgg, splice, idsL, ids, idsLL, reach, depth, St.dropL, resultsV, resultV, ↓reduceIte, Nat.reduceBEq, Nat.reduceAdd, Nat.reduceSub, Nat.reduceMul, Nat.reduceEqDiff, Nat.reduceLeDiff, Nat.reduceLT, effOf, effMem, effStore, effCall, effVar, effLit, effMake, effApp, Eff.ap, lend, evLit, evMake, evNil, freeze, onto, dropO, elemsV, sized, evCmp, eqT, eqG, minV, evUn, evField, evExtract, evIndexA, evIndexV, evSlice, optInt, fillV, placeOf, thawed, del, isNilSlice, plain, plainL, cellsJ, junkOk, St.with, setSlots, setObs, wantedD, seqOf, noRange, setAll, Array.size, te, einl, inls])))
    all_goals simp only [decide_eq_true_eq, decide_eq_false_iff_not] at *
    all_goals first
      | (rw [e2, f1 (by omega), e3]; simp [encRun]; try omega)
      | (rw [e2, f2 (by omega), e3]; simp [encRun])

def spanM (rs : List Run) (lo hi : Int) : Bool := decide (0 ≤ lo) && decide (lo ≤ hi) && decide (hi ≤ ln rs)

theorem c69 (rs : List Run) (lo hi : Int) (hn : rs.length ≤ 1000000) : (orcω E X0).call 69 [.sl false (rs.map encRun), .int .i64 lo, .int .i64 hi] = some (.bool (spanM rs lo hi)) := by
  refine call_of rfl fn69 rfl ?_
  have h1 := c61 false rs (by omega)
  simp (maxSteps := 1000000) (implicitDefEqProofs := false) only [Try.ntmps69, Try.results69, efc69, h1, ss, List.replicate, evOp, evPlain, evVal, evMem, St.eval, St.put, St.get, constV, List.set, lenV, sliceOf, arrayOf, fieldsOf, normOf, norm, firstRegion, look, maskFrom, evBin, evIndexS, evLoad, evVar, evStore, evFieldAddr, nameOf, St.alloc, St.drop, killL, kill, killAll, killObs, killOb, upd, cells?, part, retag, retagL, putIn, refFree, refFreeL, isNew, isNewL, Ty.isAgg, splice, idsL, ids, idsLL, reach, depth, St.dropL, resultsV, resultV, ↓reduceIte, Nat.reduceBEq, Nat.reduceAdd, Nat.reduceSub, Nat.reduceMul, Nat.reduceEqDiff, Nat.reduceLeDiff, Nat.reduceLT, effOf, effMem, effStore, effCall, effVar, effLit, effMake, effApp, Eff.ap, lend, evLit, evMake, evNil, freeze, onto, dropO, elemsV, sized, evCmp, eqT, eqG, minV, evUn, evField, evExtract, evIndexA, evIndexV, evSlice, optInt, fillV, placeOf, thawed, del, isNilSlice, plain, plainL, cellsJ, junkOk, St.with, setSlots, setObs, wantedD, seqOf, noRange, setAll, Array.size, te, einl, inls]
  (repeat' (rewrite [ask_to]; generalize hb : ask2 _ = w; rcases ask_cases hb with ⟨hc, rfl⟩ | ⟨hc, rfl⟩ <;> clear hb <;> (try simp (maxSteps := 1000000) (implicitDefEqProofs := false) only [Try.ntmps69, Try.results69, efc69, h1, ss, List.replicate, evOp, evPlain, evVal, evMem, St.eval, St.put, St.get, constV, List.set, lenV, sliceOf, arrayOf, fieldsOf, normOf, norm, firstRegion, look, maskFrom, evBin, evIndexS, evLoad, evVar, evStore, evFieldAddr, nameOf, St.alloc, St.drop, killL, kill, killAll, killObs, killOb, upd, cells?, part, retag, retagL, putIn, refFree, refFreeL, isNew, isNewL, Ty.isAgg, splice, idsL, ids, idsLL, reach, depth, St.dropL, resultsV, resultV, ↓reduceIte, Nat.reduceBEq, Nat.reduceAdd, Nat.reduceSub, Nat.reduceMul, Nat.reduceEqDiff, Nat.reduceLeDiff, Nat.reduceLT, effOf, effMem, effStore, effCall, effVar, effLit, effMake, effApp, Eff.ap, lend, evLit, evMake, evNil, freeze, onto, dropO, elemsV, sized, evCmp, eqT, eqG, minV, evUn, evField, evExtract, evIndexA, evIndexV, evSlice, optInt, fillV, placeOf, thawed, del, isNilSlice, plain, plainL, cellsJ, junkOk, St.with, setSlots, setObs, wantedD, seqOf, noRange, setAll, Array.size, te, einl, inls])))
  all_goals (simp_all [spanM] <;> omega)

theorem c71 (rs : List Run) (lo hi : Int) (hn : rs.length ≤ 1000000) : (orcω E X0).call 71 [.sl false (rs.map encRun), .int .i64 lo, .int .i64 hi] = some (.bool (spanM rs lo hi)) := by
  refine call_of rfl fn71 rfl ?_
  have h1 := c62 false rs (by omega)
  simp (maxSteps := 1000000) (implicitDefEqProofs := false) only [Try.ntmps71, Try.results71, efc71, h1, ss, List.replicate, evOp, evPlain, evVal, evMem, St.eval, St.put, St.get, constV, List.set, lenV, sliceOf, arrayOf, fieldsOf, normOf, norm, firstRegion, look, maskFrom, evBin, evIndexS, evLoad, evVar, evStore, evFieldAddr, nameOf, St.alloc, St.drop, killL, kill, killAll, killObs, killOb, upd, cells?, part, retag, retagL, putIn, refFree, refFreeL, isNew, isNewL, Ty.isAgg, splice, idsL, ids, idsLL, reach, depth, St.dropL, resultsV, resultV, ↓reduceIte, Nat.reduceBEq, Nat.reduceAdd, Nat.reduceSub, Nat.reduceMul, Nat.reduceEqDiff, Nat.reduceLeDiff, Nat.reduceLT, effOf, effMem, effStore, effCall, effVar, effLit, effMake, effApp, Eff.ap, lend, evLit, evMake, evNil, freeze, onto, dropO, elemsV, sized, evCmp, eqT, eqG, minV, evUn, evField, evExtract, evIndexA, evIndexV, evSlice, optInt, fillV, placeOf, thawed, del, isNilSlice, plain, plainL, cellsJ, junkOk, St.with, setSlots, setObs, wantedD, seqOf, noRange, setAll, Array.size, te, einl, inls]
  (repeat' (rewrite [ask_to]; generalize hb : ask2 _ = w; rcases ask_cases hb with ⟨hc, rfl⟩ | ⟨hc, rfl⟩ <;> clear hb <;> (try simp (maxSteps := 1000000) (implicitDefEqProofs := false) only [Try.ntmps71, Try.results71, efc71, h1, ss, List.replicate, evOp, evPlain, evVal, evMem, St.eval, St.put, St.get, constV, List.set, lenV, sliceOf, arrayOf, fieldsOf, normOf, norm, firstRegion, look, maskFrom, evBin, evIndexS, evLoad, evVar, evStore, evFieldAddr, nameOf, St.alloc, St.drop, killL, kill, killAll, killObs, killOb, upd, cells?, part, retag, retagL, putIn, refFree, refFreeL, isNew, isNewL, Ty.isAgg, splice, idsL, ids, idsLL, reach, depth, St.dropL, resultsV, resultV, ↓reduceIte, Nat.reduceBEq, Nat.reduceAdd, Nat.reduceSub, Nat.reduceMul, Nat.reduceEqDiff, Nat.reduceLeDiff, Nat.reduceLT, effOf, effMem, effStore, effCall, effVar, effLit, effMake, effApp, Eff.ap, lend, evLit, evMake, evNil, freeze, onto, dropO, elemsV, sized, evCmp, eqT, eqG, minV, evUn, evField, evExtract, evIndexA, evIndexV, evSlice, optInt, fillV, placeOf, thawed, del, isNilSlice, plain, plainL, cellsJ, junkOk, St.with, setSlots, setObs, wantedD, seqOf, noRange, setAll, Array.size, te, einl, inls])))
  all_goals (simp_all [spanM] <;> omega)

def sliceM (rs : List Run) (lo hi : Int) : List Run × Int := if validate rs = 0 then (if spanM rs lo hi = true then finished (joinedL (cutL lo hi 0 rs)) else ([], 1)) else ([], validate rs)

theorem span_mod {rs : List Run} {lo hi : Int} (h : validate rs = 0) (hs : spanM rs lo hi = true) : (0 ≤ lo ∧ lo ≤ hi ∧ hi ≤ total rs) ∧ Mod lo ∧ Mod hi := by
  obtain ⟨h1, h2, h3⟩ := valid_okay h
  simp only [spanM, Bool.and_eq_true, decide_eq_true_eq, ln_total h1] at hs
  unfold Mod
  omega

theorem c31 (rs : List Run) (lo hi : Int) (hn : rs.length ≤ 100000) : (orcω E X0).call 31 [.sl false (rs.map encRun), .int .i64 lo, .int .i64 hi] = some (encRes (sliceM rs lo hi)) := by
  refine call_of rfl fn31 rfl ?_
  have h1 := c23 false rs (by omega)
  have h2 := c69 rs lo hi (by omega)
  simp (maxSteps := 1000000) (implicitDefEqProofs := false) only [Try.ntmps31, Try.results31, efc31, h1, ss, List.replicate, evOp, evPlain, evVal, evMem, St.eval, St.put, St.get, constV, List.set, lenV, sliceOf, arrayOf, fieldsOf, normOf, norm, firstRegion, look, maskFrom, evBin, evIndexS, evLoad, evVar, evStore, evFieldAddr, nameOf, St.alloc, St.drop, killL, kill, killAll, killObs, killOb, upd, cells?, part, retag, retagL, putIn, refFree, refFreeL, isNew, isNewL, Ty.isAgg, splice, idsL, ids, idsLL, reach, depth, St.dropL, resultsV, resultV, ↓reduceIte, Nat.reduceBEq, Nat.reduceAdd, Nat.reduceSub, Nat.reduceMul, Nat.reduceEqDiff, Nat.reduceLeDiff, Nat.reduceLT, effOf, effMem, effStore, effCall, effVar, effLit, effMake, effApp, Eff.ap, lend, evLit, evMake, evNil, freeze, onto, dropO, elemsV, sized, evCmp, eqT, eqG, minV, evUn, evField, evExtract, evIndexA, evIndexV, evSlice, optInt, fillV, placeOf, thawed, del, isNilSlice, plain, plainL, cellsJ, junkOk, St.with, setSlots, setObs, wantedD, seqOf, noRange, setAll, Array.size, te, einl, inls]
  (repeat' (rewrite [ask_to]; generalize hb : ask2 _ = w; rcases ask_cases hb with ⟨hc, rfl⟩ | ⟨hc, rfl⟩ <;> clear hb <;> (try simp (maxSteps := 1000000) (implicitDefEqProofs := false) only [Try.ntmps31, Try.results31, efc31, h1, h2, ss, List.replicate, evOp, evPlain, evVal, evMem, St.eval, St.put, St.get, constV, List.set, lenV, sliceOf, arrayOf, fieldsOf, normOf, norm, firstRegion, look, maskFrom, evBin, evIndexS, evLoad, evVar, evStore, evFieldAddr, nameOf, St.alloc, St.drop, killL, kill, killAll, killObs, killOb, upd, cells?, part, retag, retagL, putIn, refFree, refFreeL, isNew, isNewL, Ty.isAgg, splice, idsL, ids, idsLL, reach, depth, St.dropL, resultsV, resultV, ↓reduceIte, Nat.reduceBEq, Nat.reduceAdd, Nat.reduceSub, Nat.reduceMul, Nat.reduceEqDiff, Nat.reduceLeDiff, Nat.reduceLT, effOf, effMem, effStore, effCall, effVar, effLit, effMake, effApp, Eff.ap, lend, evLit, evMake, evNil, freeze, onto, dropO, elemsV, sized, evCmp, eqT, eqG, minV, evUn, evField, evExtract, evIndexA, evIndexV, evSlice, optInt, fillV, placeOf, thawed, del, isNilSlice, plain, plainL, cellsJ, junkOk, St.with, setSlots, setObs, wantedD, seqOf, noRange, setAll, Array.size, te, einl, inls])))
  · simp_all [encRes, sliceM]
  · simp_all [encRes, sliceM]
  · have hv : validate rs = 0 := by simp_all
    have hs : spanM rs lo hi = true := by simp_all
    obtain ⟨h5, h6, h7⟩ := span_mod hv hs
    have h3 := c70 rs lo hi (valid_okay hv).1 (by omega) h6 h7
    have h8 := cutL_len lo hi rs 0
    have h4 := c59 false (cutL lo hi 0 rs) (by omega)
    simp only [encRes] at h4
    simp (maxSteps := 1000000) (implicitDefEqProofs := false) only [Try.ntmps31, Try.results31, efc31, h1, h2, h3, h4, ss, List.replicate, evOp, evPlain, evVal, evMem, St.eval, St.put, St.get, constV, List.set, lenV, sliceOf, arrayOf, fieldsOf, normOf, norm, firstRegion, look, maskFrom, evBin, evIndexS, evLoad, evVar, evStore, evFieldAddr, nameOf, St.alloc, St.drop, killL, kill, killAll, killObs, killOb, upd, cells?, part, retag, retagL, putIn, refFree, refFreeL, isNew, isNewL, Ty.isAgg, splice, idsL, ids, idsLL, reach, depth, St.dropL, resultsV, resultV, ↓reduceIte, Nat.reduceBEq, Nat.reduceAdd, Nat.reduceSub, Nat.reduceMul, Nat.reduceEqDiff, Nat.reduceLeDiff, Nat.reduceLT, effOf, effMem, effStore, effCall, effVar, effLit, effMake, effApp, Eff.ap, lend, evLit, evMake, evNil, freeze, onto, dropO, elemsV, sized, evCmp, eqT, eqG, minV, evUn, evField, evExtract, evIndexA, evIndexV, evSlice, optInt, fillV, placeOf, thawed, del, isNilSlice, plain, plainL, cellsJ, junkOk, St.with, setSlots, setObs, wantedD, seqOf, noRange, setAll, Array.size, te, einl, inls]
    simp [encRes, sliceM, hv, hs]

theorem lens_cut {lo hi : Int} : ∀ (rs : List Run) (a : Int), ∀ r ∈ cutL lo hi a rs, 1 ≤ r.len
  | [], a, r, h => by cases h
  | x :: rs, a, r, h => by
    simp only [cutL, List.mem_append] at h
    rcases h with h | h
    · unfold piece at h
      split at h
      · simp only [List.mem_singleton] at h
        subst h
        dsimp only
        omega
      · cases h
    · exact lens_cut rs _ r h

theorem c32 (rs : List Run) (lo hi : Int) (hn : rs.length ≤ 100000) : (orcω E X0).call 32 [.sl false (rs.map encRun), .int .i64 lo, .int .i64 hi] = some (encRes (sliceM rs lo hi)) := by
  refine call_of rfl fn32 rfl ?_
  have h1 := c24 false rs (by omega)
  have h2 := c71 rs lo hi (by omega)
  simp (maxSteps := 1000000) (implicitDefEqProofs := false) only [Try.ntmps32, Try.results32, efc32, h1, ss, List.replicate, evOp, evPlain, evVal, evMem, St.eval, St.put, St.get, constV, List.set, lenV, sliceOf, arrayOf, fieldsOf, normOf, norm, firstRegion, look, maskFrom, evBin, evIndexS, evLoad, evVar, evStore, evFieldAddr, nameOf, St.alloc, St.drop, killL, kill, killAll, killObs, killOb, upd, cells?, part, retag, retagL, putIn, refFree, refFreeL, isNew, isNewL, Ty.isAgg, splice, idsL, ids, idsLL, reach, depth, St.dropL, resultsV, resultV, ↓reduceIte, Nat.reduceBEq, Nat.reduceAdd, Nat.reduceSub, Nat.reduceMul, Nat.reduceEqDiff, Nat.reduceLeDiff, Nat.reduceLT, effOf, effMem, effStore, effCall, effVar, effLit, effMake, effApp, Eff.ap, lend, evLit, evMake, evNil, freeze, onto, dropO, elemsV, sized, evCmp, eqT, eqG, minV, evUn, evField, evExtract, evIndexA, evIndexV, evSlice, optInt, fillV, placeOf, thawed, del, isNilSlice, plain, plainL, cellsJ, junkOk, St.with, setSlots, setObs, wantedD, seqOf, noRange, setAll, Array.size, te, einl, inls]
  (repeat' (rewrite [ask_to]; generalize hb : ask2 _ = w; rcases ask_cases hb with ⟨hc, rfl⟩ | ⟨hc, rfl⟩ <;> clear hb <;> (try simp (maxSteps := 1000000) (implicitDefEqProofs := false) only [Try.ntmps32, Try.results32, efc32, h1, h2, ss, List.replicate, evOp, evPlain, evVal, evMem, St.eval, St.put, St.get, constV, List.set, lenV, sliceOf, arrayOf, fieldsOf, normOf, norm, firstRegion, look, maskFrom, evBin, evIndexS, evLoad, evVar, evStore, evFieldAddr, nameOf, St.alloc, St.drop, killL, kill, killAll, killObs, killOb, upd, cells?, part, retag, retagL, putIn, refFree, refFreeL, isNew, isNewL, Ty.isAgg, splice, idsL, ids, idsLL, reach, depth, St.dropL, resultsV, resultV, ↓reduceIte, Nat.reduceBEq, Nat.reduceAdd, Nat.reduceSub, Nat.reduceMul, Nat.reduceEqDiff, Nat.reduceLeDiff, Nat.reduceLT, effOf, effMem, effStore, effCall, effVar, effLit, effMake, effApp, Eff.ap, lend, evLit, evMake, evNil, freeze, onto, dropO, elemsV, sized, evCmp, eqT, eqG, minV, evUn, evField, evExtract, evIndexA, evIndexV, evSlice, optInt, fillV, placeOf, thawed, del, isNilSlice, plain, plainL, cellsJ, junkOk, St.with, setSlots, setObs, wantedD, seqOf, noRange, setAll, Array.size, te, einl, inls])))
  · simp_all [encRes, sliceM]
  · simp_all [encRes, sliceM]
  · have hv : validate rs = 0 := by simp_all
    have hs : spanM rs lo hi = true := by simp_all
    obtain ⟨h5, h6, h7⟩ := span_mod hv hs
    have h3 := c72 rs lo hi (valid_okay hv).1 (by omega) h6 h7
    have h8 := cutL_len lo hi rs 0
    have h4 := c60 false (cutL lo hi 0 rs) (by omega)
    rw [joinR_eq (fun r hr => by have := lens_cut rs 0 r hr; omega)] at h4
    simp only [encRes] at h4
    simp (maxSteps := 1000000) (implicitDefEqProofs := false) only [Try.ntmps32, Try.results32, efc32, h1, h2, h3, h4, ss, List.replicate, evOp, evPlain, evVal, evMem, St.eval, St.put, St.get, constV, List.set, lenV, sliceOf, arrayOf, fieldsOf, normOf, norm, firstRegion, look, maskFrom, evBin, evIndexS, evLoad, evVar, evStore, evFieldAddr, nameOf, St.alloc, St.drop, killL, kill, killAll, killObs, killOb, upd, cells?, part, retag, retagL, putIn, refFree, refFreeL, isNew, isNewL, Ty.isAgg, splice, idsL, ids, idsLL, reach, depth, St.dropL, resultsV, resultV, ↓reduceIte, Nat.reduceBEq, Nat.reduceAdd, Nat.reduceSub, Nat.reduceMul, Nat.reduceEqDiff, Nat.reduceLeDiff, Nat.reduceLT, effOf, effMem, effStore, effCall, effVar, effLit, effMake, effApp, Eff.ap, lend, evLit, evMake, evNil, freeze, onto, dropO, elemsV, sized, evCmp, eqT, eqG, minV, evUn, evField, evExtract, evIndexA, evIndexV, evSlice, optInt, fillV, placeOf, thawed, del, isNilSlice, plain, plainL, cellsJ, junkOk, St.with, setSlots, setObs, wantedD, seqOf, noRange, setAll, Array.size, te, einl, inls]
    simp [encRes, sliceM, hv, hs]

theorem sliceM_le (rs : List Run) (lo hi : Int) : (sliceM rs lo hi).1.length ≤ rs.length := by
  unfold sliceM
  split
  · split
    · refine Nat.le_trans (finished_le _) (Nat.le_trans (joined_le _) (cutL_len lo hi rs 0))
    · exact Nat.zero_le _
  · exact Nat.zero_le _

theorem c5 (xs : List Run) (lo hi : Int) : (orcω E X0).call 5 [.sl false (xs.map encRun), .int .i64 lo, .int .i64 hi] = some (.bool true) := by
  refine call_of rfl fn5 rfl ?_
  have k1 := c16 false xs
  by_cases hx : (100 : Int) < xs.length
  · simp only [hx, decide_true] at k1
    simp (maxSteps := 1000000) (implicitDefEqProofs := false) only [Try.ntmps5, Try.results5, efc5, fc5, k1, c17, ss, List.replicate, evOp, evPlain, evVal, evMem, St.eval, St.put, St.get, constV, List.set, lenV, sliceOf, arrayOf, fieldsOf, normOf, norm, firstRegion, look, maskFrom, evBin, evIndexS, evLoad, evVar, evStore, evFieldAddr, nameOf, St.alloc, St.drop, killL, kill, killAll, killObs, killOb, upd, cells?, part, retag, retagL, putIn, refFree, refFreeL, isNew, isNewL, Ty.isAgg, splice, idsL, ids, idsLL, reach, depth, St.dropL, resultsV, resultV, ↓reduceIte, Nat.reduceBEq, Nat.reduceAdd, Nat.reduceSub, Nat.reduceMul, Nat.reduceEqDiff, Nat.reduceLeDiff, Nat.reduceLT, effOf, effMem, effStore, effCall, effVar, effLit, effMake, effApp, Eff.ap, lend, evLit, evMake, evNil, freeze, onto, dropO, elemsV, sized, evCmp, eqT, eqG, minV, evUn, evField, evExtract, evIndexA, evIndexV, evSlice, optInt, fillV, placeOf, thawed, del, isNilSlice, plain, plainL, cellsJ, junkOk, St.with, setSlots, setObs, wantedD, seqOf, noRange, setAll, Array.size, te, einl, inls]
  simp only [hx, decide_false] at k1
  have k3 := c18 false xs (by omega)
  have k5 := c31 xs lo hi (by omega)
  have k6 := c32 xs lo hi (by omega)
  have l1 := sliceM_le xs lo hi
  generalize sliceM xs lo hi = J at *
  obtain ⟨js, je⟩ := J
  dsimp only at l1
  have s1 := c25 false false js js (by omega)
  have s3 := c25 false false xs xs (by omega)
  have p1 := fun b id outer objs => c26 b id outer objs js (by omega) false
  simp only [decide_true] at s1 s3
  simp only [encRes] at k5 k6
  simp (maxSteps := 1000000) (implicitDefEqProofs := false) only [Try.ntmps5, Try.results5, efc5, fc5, k1, k3, k5, k6, s1, s3, p1, c17, refFree_runs, plain_runs, sized_runs, ss, List.replicate, evOp, evPlain, evVal, evMem, St.eval, St.put, St.get, constV, List.set, lenV, sliceOf, arrayOf, fieldsOf, normOf, norm, firstRegion, look, maskFrom, evBin, evIndexS, evLoad, evVar, evStore, evFieldAddr, nameOf, St.alloc, St.drop, killL, kill, killAll, killObs, killOb, upd, cells?, part, retag, retagL, putIn, refFree, refFreeL, isNew, isNewL, Ty.isAgg, splice, idsL, ids, idsLL, reach, depth, St.dropL, resultsV, resultV, ↓reduceIte, Nat.reduceBEq, Nat.reduceAdd, Nat.reduceSub, Nat.reduceMul, Nat.reduceEqDiff, Nat.reduceLeDiff, Nat.reduceLT, effOf, effMem, effStore, effCall, effVar, effLit, effMake, effApp, Eff.ap, lend, evLit, evMake, evNil, freeze, onto, dropO, elemsV, sized, evCmp, eqT, eqG, minV, evUn, evField, evExtract, evIndexA, evIndexV, evSlice, optInt, fillV, placeOf, thawed, del, isNilSlice, plain, plainL, cellsJ, junkOk, St.with, setSlots, setObs, wantedD, seqOf, noRange, setAll, Array.size, te, einl, inls]

end Go.AM.A
end

section
namespace Go.AM.A
open Go Go.Proofs

def encMk (m : Mk) : V := .agg [.int .i64 m.thick, .int .i64 m.shade, .int .i64 m.flaw]
def mk0 : Mk := ⟨0, 0, 0⟩

theorem expand_get {pre : List Run} {r : Run} {post : List Run} {k : Int} (h : Okay (pre ++ r :: post)) (h1 : total pre ≤ k) (h2 : k < total pre + r.len) : (expand (pre ++ r :: post))[k.toNat]? = some r.mk' := by
  obtain ⟨ha, hb⟩ := okay_app h
  have := expand_len ha
  rw [expand_app, expand_cons, List.getElem?_append_right (by omega), List.getElem?_append_left (by simp; omega)]
  rw [List.getElem?_replicate, if_pos (by omega)]

theorem expand_none {rs : List Run} {k : Int} (h : Okay rs) (h1 : total rs ≤ k) : (expand rs)[k.toNat]? = none := by
  have := expand_len h
  have := okay_nonneg h
  exact List.getElem?_eq_none (by omega)

def atM (rs : List Run) (p : Int) : Mk × Int := if validate rs = 0 then (if 0 ≤ p then (match (expand rs)[p.toNat]? with | some m => (m, 0) | none => (mk0, 5)) else (mk0, 5)) else (mk0, validate rs)
def encAt (x : Mk × Int) : V := .tup [encMk x.1, .int .i64 x.2]

theorem c33 (rs : List Run) (p : Int) (hn : rs.length ≤ 100000) : (orcω E X0).call 33 [.sl false (rs.map encRun), .int .i64 p] = some (encAt (atM rs p)) := by
  refine call_of rfl fn33 rfl ?_
  have h1 := c23 false rs (by omega)
  have h2 := c73 rs
  have h3 := eseq_each false false rs (by omega)
  simp (maxSteps := 1000000) (implicitDefEqProofs := false) only [Try.ntmps33, Try.results33, efc33, h1, ss, List.replicate, evOp, evPlain, evVal, evMem, St.eval, St.put, St.get, constV, List.set, lenV, sliceOf, arrayOf, fieldsOf, normOf, norm, firstRegion, look, maskFrom, evBin, evIndexS, evLoad, evVar, evStore, evFieldAddr, nameOf, St.alloc, St.drop, killL, kill, killAll, killObs, killOb, upd, cells?, part, retag, retagL, putIn, refFree, refFreeL, isNew, isNewL, Ty.isAgg, splice, idsL, ids, idsLL, reach, depth, St.dropL, resultsV, resultV, ↓reduceIte, Nat.reduceBEq, Nat.reduceAdd, Nat.reduceSub, Nat.reduceMul, Nat.reduceEqDiff, Nat.reduceLeDiff, Nat.reduceLT, effOf, effMem, effStore, effCall, effVar, effLit, effMake, effApp, Eff.ap, lend, evLit, evMake, evNil, freeze, onto, dropO, elemsV, sized, evCmp, eqT, eqG, minV, evUn, evField, evExtract, evIndexA, evIndexV, evSlice, optInt, fillV, placeOf, thawed, del, isNilSlice, plain, plainL, cellsJ, junkOk, St.with, setSlots, setObs, wantedD, seqOf, noRange, setAll, Array.size, te, einl, inls]
  (repeat' (rewrite [ask_to]; generalize hb : ask2 _ = w; rcases ask_cases hb with ⟨hc, rfl⟩ | ⟨hc, rfl⟩ <;> clear hb <;> (try simp (maxSteps := 1000000) (implicitDefEqProofs := false) only [Try.ntmps33, Try.results33, efc33, h1, h2, h3, ss, List.replicate, evOp, evPlain, evVal, evMem, St.eval, St.put, St.get, constV, List.set, lenV, sliceOf, arrayOf, fieldsOf, normOf, norm, firstRegion, look, maskFrom, evBin, evIndexS, evLoad, evVar, evStore, evFieldAddr, nameOf, St.alloc, St.drop, killL, kill, killAll, killObs, killOb, upd, cells?, part, retag, retagL, putIn, refFree, refFreeL, isNew, isNewL, Ty.isAgg, splice, idsL, ids, idsLL, reach, depth, St.dropL, resultsV, resultV, ↓reduceIte, Nat.reduceBEq, Nat.reduceAdd, Nat.reduceSub, Nat.reduceMul, Nat.reduceEqDiff, Nat.reduceLeDiff, Nat.reduceLT, effOf, effMem, effStore, effCall, effVar, effLit, effMake, effApp, Eff.ap, lend, evLit, evMake, evNil, freeze, onto, dropO, elemsV, sized, evCmp, eqT, eqG, minV, evUn, evField, evExtract, evIndexA, evIndexV, evSlice, optInt, fillV, placeOf, thawed, del, isNilSlice, plain, plainL, cellsJ, junkOk, St.with, setSlots, setObs, wantedD, seqOf, noRange, setAll, Array.size, te, einl, inls])))
  · simp_all [encAt, atM, encMk, mk0]
  have hv : validate rs = 0 := by simp_all
  have ho := (valid_okay hv).1
  generalize hr : popped (roundsIn _ _ _ _ _ _) = r; revert r
  refine rounds_runs rs (fun _ _ => [(3, { es := 1, flat := true, t := true, app := false, elems := [.int .i64 p] }), (4, { es := 3, flat := true, t := true, app := false, elems := [encMk mk0] }), (5, { es := 1, flat := true, t := true, app := false, elems := [.int .i64 0] })])
    (fun pre (_ : Unit) => p < 0 ∨ total pre ≤ p) () (by simp (maxSteps := 1000000) (implicitDefEqProofs := false) only [encMk, mk0, ss, List.replicate, evOp, evPlain, evVal, evMem, St.eval, St.put, St.get, constV, List.set, lenV, sliceOf, arrayOf, fieldsOf, normOf, norm, firstRegion, look, maskFrom, evBin, evIndexS, evLoad, evVar, evStore, evFieldAddr, nameOf, St.alloc, St.drop, killL, kill, killAll, killObs, killOb, upd, cells?, part, retag, retagL, putIn, refFree, refFreeL, isNew, isNewL, Ty.isAgg, splice, idsL, ids, idsLL, reach, depth, St.dropL, resultsV, resultV, ↓reduceIte, Nat.reduceBEq, Nat.reduceAdd, Nat.reduceSub, Nat.reduceMul, Nat.reduceEqDiff, Nat.reduceLeDiff, Nat.reduceLT, effOf, effMem, effStore, effCall, effVar, effLit, effMake, effApp, Eff.ap, lend, evLit, evMake, evNil, freeze, onto, dropO, elemsV, sized, evCmp, eqT, eqG, minV, evUn, evField, evExtract, evIndexA, evIndexV, evSlice, optInt, fillV, placeOf, thawed, del, isNilSlice, plain, plainL, cellsJ, junkOk, St.with, setSlots, setObs, wantedD, seqOf, noRange, setAll, Array.size, te, einl, inls]) (by simp [total]; omega) (fun _ hi => ?_) (fun pre r post _ hp hi => ?_)
  · simp (maxSteps := 1000000) (implicitDefEqProofs := false) only [Try.ntmps33, Try.results33, efc33, encMk, mk0, ss, List.replicate, evOp, evPlain, evVal, evMem, St.eval, St.put, St.get, constV, List.set, lenV, sliceOf, arrayOf, fieldsOf, normOf, norm, firstRegion, look, maskFrom, evBin, evIndexS, evLoad, evVar, evStore, evFieldAddr, nameOf, St.alloc, St.drop, killL, kill, killAll, killObs, killOb, upd, cells?, part, retag, retagL, putIn, refFree, refFreeL, isNew, isNewL, Ty.isAgg, splice, idsL, ids, idsLL, reach, depth, St.dropL, resultsV, resultV, ↓reduceIte, Nat.reduceBEq, Nat.reduceAdd, Nat.reduceSub, Nat.reduceMul, Nat.reduceEqDiff, Nat.reduceLeDiff, Nat.reduceLT, effOf, effMem, effStore, effCall, effVar, effLit, effMake, effApp, Eff.ap, lend, evLit, evMake, evNil, freeze, onto, dropO, elemsV, sized, evCmp, eqT, eqG, minV, evUn, evField, evExtract, evIndexA, evIndexV, evSlice, optInt, fillV, placeOf, thawed, del, isNilSlice, plain, plainL, cellsJ, junkOk, St.with, setSlots, setObs, wantedD, seqOf, noRange, setAll, Array.size, te, einl, inls]
    rcases hi with hi | hi
    · simp [encAt, atM, hv, encMk, mk0, show ¬ 0 ≤ p by omega]
    · simp [encAt, atM, hv, encMk, mk0, expand_none ho hi]
  · have h4 := okay_app (hp ▸ ho)
    have h5 := ln_total h4.1
    have h6 := okay_nonneg h4.1
    have h7 := okay_nonneg h4.2
    have h8 := okay_lens ho r (by rw [hp]; simp)
    have h9 := ho.2
    rw [hp, total_app] at h9
    have e3 : total (pre ++ [r]) = total pre + r.len := by rw [total_app, total_cons, total_nil]; omega
    simp (maxSteps := 1000000) (implicitDefEqProofs := false) (disch := omega) only [h5, encRun, wrap_in, ss, List.replicate, evOp, evPlain, evVal, evMem, St.eval, St.put, St.get, constV, List.set, lenV, sliceOf, arrayOf, fieldsOf, normOf, norm, firstRegion, look, maskFrom, evBin, evIndexS, evLoad, evVar, evStore, evFieldAddr, nameOf, St.alloc, St.drop, killL, kill, killAll, killObs, killOb, upd, cells?, part, retag, retagL, putIn, refFree, refFreeL, isNew, isNewL, Ty.isAgg, splice, idsL, ids, idsLL, reach, depth, St.dropL, resultsV, resultV, ↓reduceIte, Nat.reduceBEq, Nat.reduceAdd, Nat.reduceSub, Nat.reduceMul, Nat.reduceEqDiff, Nat.reduceLeDiff, Nat.reduceLT, effOf, effMem, effStore, effCall, effVar, effLit, effMake, effApp, Eff.ap, lend, evLit, evMake, evNil, freeze, onto, dropO, elemsV, sized, evCmp, eqT, eqG, minV, evUn, evField, evExtract, evIndexA, evIndexV, evSlice, optInt, fillV, placeOf, thawed, del, isNilSlice, plain, plainL, cellsJ, junkOk, St.with, setSlots, setObs, wantedD, seqOf, noRange, setAll, Array.size, te, einl, inls]
    (repeat' (rewrite [ask_to]; generalize hb : ask2 _ = w; rcases ask_cases hb with ⟨hc, rfl⟩ | ⟨hc, rfl⟩ <;> clear hb <;> (try simp (maxSteps := 1000000) (implicitDefEqProofs := false) (disch := omega) only [h5, encRun, encMk, Try.ntmps33, Try.results33, efc33, wrap_in, ss, List.replicate, evOp, evPlain, evVal, evMem, St.eval, St.put, St.get, constV, List.set, lenV, sliceOf, arrayOf, fieldsOf, normOf, norm, firstRegion, look, maskFrom, evBin, evIndexS, evLoad, evVar, evStore, evFieldAddr, nameOf, St.alloc, St.drop, killL, kill, killAll, killObs, killOb, upd, cells?, part, retag, retagL, putIn, refFree, refFreeL, isNew, isNewL, Ty.isAgg, splice, idsL, ids, idsLL, reach, depth, St.dropL, resultsV, resultV, ↓reduceIte, Nat.reduceBEq, Nat.reduceAdd, Nat.reduceSub, Nat.reduceMul, Nat.reduceEqDiff, Nat.reduceLeDiff, Nat.reduceLT, effOf, effMem, effStore, effCall, effVar, effLit, effMake, effApp, Eff.ap, lend, evLit, evMake, evNil, freeze, onto, dropO, elemsV, sized, evCmp, eqT, eqG, minV, evUn, evField, evExtract, evIndexA, evIndexV, evSlice, optInt, fillV, placeOf, thawed, del, isNilSlice, plain, plainL, cellsJ, junkOk, St.with, setSlots, setObs, wantedD, seqOf, noRange, setAll, Array.size, te, einl, inls])))
    all_goals simp only [decide_eq_true_eq, decide_eq_false_iff_not] at *
    · have h10 : (expand rs)[p.toNat]? = some r.mk' := by
        have := expand_get (k := p) (hp ▸ ho) (by omega) (by omega)
        rwa [← hp] at this
      simp [encAt, atM, hv, encMk, h10, show 0 ≤ p by omega, Run.mk']
    all_goals (simp [encMk]; omega)

end Go.AM.A
end

section
namespace Go.AM.A
open Go Go.Proofs

theorem c74 (rs : List Run) (p : Int) (ho : Okay rs) (hn : rs.length ≤ 100000) (h0 : 0 ≤ p) (h1 : p < total rs) : ∃ m, (expand rs)[p.toNat]? = some m ∧ (orcω E X0).call 74 [.sl false (rs.map encRun), .int .i64 p] = some (encMk m) := by
  have hlen := expand_len ho
  obtain ⟨m, hm⟩ : ∃ m, (expand rs)[p.toNat]? = some m := ⟨_, List.getElem?_eq_getElem (by omega)⟩
  refine ⟨m, hm, ?_⟩
  have htot := ho.2
  refine call_of rfl fn74 rfl ?_
  simp (maxSteps := 1000000) (implicitDefEqProofs := false) only [Try.ntmps74, Try.results74, efc74, fc74, ss, List.replicate, evOp, evPlain, evVal, evMem, St.eval, St.put, St.get, constV, List.set, lenV, sliceOf, arrayOf, fieldsOf, normOf, norm, firstRegion, look, maskFrom, evBin, evIndexS, evLoad, evVar, evStore, evFieldAddr, nameOf, St.alloc, St.drop, killL, kill, killAll, killObs, killOb, upd, cells?, part, retag, retagL, putIn, refFree, refFreeL, isNew, isNewL, Ty.isAgg, splice, idsL, ids, idsLL, reach, depth, St.dropL, resultsV, resultV, ↓reduceIte, Nat.reduceBEq, Nat.reduceAdd, Nat.reduceSub, Nat.reduceMul, Nat.reduceEqDiff, Nat.reduceLeDiff, Nat.reduceLT, effOf, effMem, effStore, effCall, effVar, effLit, effMake, effApp, Eff.ap, lend, evLit, evMake, evNil, freeze, onto, dropO, elemsV, sized, evCmp, eqT, eqG, minV, evUn, evField, evExtract, evIndexA, evIndexV, evSlice, optInt, fillV, placeOf, thawed, del, isNilSlice, plain, plainL, cellsJ, junkOk, St.with, setSlots, setObs, wantedD, seqOf, noRange, setAll, Array.size, te, einl, inls]
  generalize hr : loopAt _ _ _ _ _ _ = r; revert r
  refine loop_inv (ι := { x : List Run × List Run // rs = x.1 ++ x.2 ∧ total x.1 ≤ p }) (fun i => [(1, .int .i64 (p - total i.1.1)), (5, .int .i64 i.1.1.length)]) (fun i => [(4, { es := 3, flat := true, t := true, app := false, elems := [encMk mk0] })])
    (fun i => i.1.2.length) ⟨([], rs), rfl, h0⟩ (by simp (maxSteps := 1000000) (implicitDefEqProofs := false) only [total_nil, Int.sub_zero, encMk, mk0, ss, List.replicate, evOp, evPlain, evVal, evMem, St.eval, St.put, St.get, constV, List.set, lenV, sliceOf, arrayOf, fieldsOf, normOf, norm, firstRegion, look, maskFrom, evBin, evIndexS, evLoad, evVar, evStore, evFieldAddr, nameOf, St.alloc, St.drop, killL, kill, killAll, killObs, killOb, upd, cells?, part, retag, retagL, putIn, refFree, refFreeL, isNew, isNewL, Ty.isAgg, splice, idsL, ids, idsLL, reach, depth, St.dropL, resultsV, resultV, ↓reduceIte, Nat.reduceBEq, Nat.reduceAdd, Nat.reduceSub, Nat.reduceMul, Nat.reduceEqDiff, Nat.reduceLeDiff, Nat.reduceLT, effOf, effMem, effStore, effCall, effVar, effLit, effMake, effApp, Eff.ap, lend, evLit, evMake, evNil, freeze, onto, dropO, elemsV, sized, evCmp, eqT, eqG, minV, evUn, evField, evExtract, evIndexA, evIndexV, evSlice, optInt, fillV, placeOf, thawed, del, isNilSlice, plain, plainL, cellsJ, junkOk, St.with, setSlots, setObs, wantedD, seqOf, noRange, setAll, Array.size, te, einl, inls]) ?_
  rintro ⟨⟨pre, post⟩, hp, ht⟩
  dsimp only at hp ht ⊢
  cases post with
  | nil =>
    exfalso
    rw [hp, List.append_nil] at h1
    omega
  | cons r post =>
    have hget : rs[pre.length]? = some r := by subst hp; simp
    have hl : pre.length + 1 ≤ rs.length := by subst hp; simp
    have h7 := okay_lens ho r (by rw [hp]; simp)
    have h6 := okay_nonneg (okay_app (hp ▸ ho)).1
    have e3 : total (pre ++ [r]) = total pre + r.len := by rw [total_app, total_cons, total_nil]; omega
    simp (maxSteps := 1000000) (implicitDefEqProofs := false) (disch := omega) only [hget, Int.natCast_nonneg, Int.toNat_natCast, List.getElem?_map, encRun, wrap_in, ss, List.replicate, evOp, evPlain, evVal, evMem, St.eval, St.put, St.get, constV, List.set, lenV, sliceOf, arrayOf, fieldsOf, normOf, norm, firstRegion, look, maskFrom, evBin, evIndexS, evLoad, evVar, evStore, evFieldAddr, nameOf, St.alloc, St.drop, killL, kill, killAll, killObs, killOb, upd, cells?, part, retag, retagL, putIn, refFree, refFreeL, isNew, isNewL, Ty.isAgg, splice, idsL, ids, idsLL, reach, depth, St.dropL, resultsV, resultV, ↓reduceIte, Nat.reduceBEq, Nat.reduceAdd, Nat.reduceSub, Nat.reduceMul, Nat.reduceEqDiff, Nat.reduceLeDiff, Nat.reduceLT, effOf, effMem, effStore, effCall, effVar, effLit, effMake, effApp, Eff.ap, lend, evLit, evMake, evNil, freeze, onto, dropO, elemsV, sized, evCmp, eqT, eqG, minV, evUn, evField, evExtract, evIndexA, evIndexV, evSlice, optInt, fillV, placeOf, thawed, del, isNilSlice, plain, plainL, cellsJ, junkOk, St.with, setSlots, setObs, wantedD, seqOf, noRange, setAll, Array.size, te, einl, inls]
    (repeat' (rewrite [ask_to]; generalize hb : ask2 _ = w; rcases ask_cases hb with ⟨hc, rfl⟩ | ⟨hc, rfl⟩ <;> clear hb <;> (try simp (maxSteps := 1000000) (implicitDefEqProofs := false) (disch := omega) only [hget, Int.natCast_nonneg, Int.toNat_natCast, List.getElem?_map, encRun, encMk, mk0, Try.ntmps74, Try.results74, efc74, fc74, wrap_in, ss, List.replicate, evOp, evPlain, evVal, evMem, St.eval, St.put, St.get, constV, List.set, lenV, sliceOf, arrayOf, fieldsOf, normOf, norm, firstRegion, look, maskFrom, evBin, evIndexS, evLoad, evVar, evStore, evFieldAddr, nameOf, St.alloc, St.drop, killL, kill, killAll, killObs, killOb, upd, cells?, part, retag, retagL, putIn, refFree, refFreeL, isNew, isNewL, Ty.isAgg, splice, idsL, ids, idsLL, reach, depth, St.dropL, resultsV, resultV, ↓reduceIte, Nat.reduceBEq, Nat.reduceAdd, Nat.reduceSub, Nat.reduceMul, Nat.reduceEqDiff, Nat.reduceLeDiff, Nat.reduceLT, effOf, effMem, effStore, effCall, effVar, effLit, effMake, effApp, Eff.ap, lend, evLit, evMake, evNil, freeze, onto, dropO, elemsV, sized, evCmp, eqT, eqG, minV, evUn, evField, evExtract, evIndexA, evIndexV, evSlice, optInt, fillV, placeOf, thawed, del, isNilSlice, plain, plainL, cellsJ, junkOk, St.with, setSlots, setObs, wantedD, seqOf, noRange, setAll, Array.size, te, einl, inls])))
    all_goals simp only [decide_eq_true_eq, decide_eq_false_iff_not] at *
    · refine ⟨⟨(pre ++ [r], post), by simpa using hp, by dsimp only; omega⟩, ?_, by simp⟩
      simp [e3, encMk, mk0]
      omega
    · have := expand_get (k := p) (hp ▸ ho) ht (by omega)
      rw [← hp, hm] at this
      cases this
      simp [Run.mk']

theorem c34 (rs : List Run) (p : Int) (hn : rs.length ≤ 100000) : (orcω E X0).call 34 [.sl false (rs.map encRun), .int .i64 p] = some (encAt (atM rs p)) := by
  refine call_of rfl fn34 rfl ?_
  have h1 := c24 false rs (by omega)
  have h2 := c62 false rs (by omega)
  by_cases hv : validate rs = 0
  · have ho := (valid_okay hv).1
    rw [ln_total ho] at h2
    rw [hv] at h1
    by_cases h3 : 0 ≤ p ∧ p < total rs
    · obtain ⟨m, h4, h5⟩ := c74 rs p ho hn h3.1 h3.2
      have a1 : ¬ p < 0 := by omega
      have a2 : ¬ total rs ≤ p := by omega
      simp only [encMk] at h5
      simp (maxSteps := 1000000) (implicitDefEqProofs := false) only [Try.ntmps34, Try.results34, efc34, h1, h2, a1, a2, h5, bne_self_eq_false, ss, List.replicate, evOp, evPlain, evVal, evMem, St.eval, St.put, St.get, constV, List.set, lenV, sliceOf, arrayOf, fieldsOf, normOf, norm, firstRegion, look, maskFrom, evBin, evIndexS, evLoad, evVar, evStore, evFieldAddr, nameOf, St.alloc, St.drop, killL, kill, killAll, killObs, killOb, upd, cells?, part, retag, retagL, putIn, refFree, refFreeL, isNew, isNewL, Ty.isAgg, splice, idsL, ids, idsLL, reach, depth, St.dropL, resultsV, resultV, ↓reduceIte, Nat.reduceBEq, Nat.reduceAdd, Nat.reduceSub, Nat.reduceMul, Nat.reduceEqDiff, Nat.reduceLeDiff, Nat.reduceLT, effOf, effMem, effStore, effCall, effVar, effLit, effMake, effApp, Eff.ap, lend, evLit, evMake, evNil, freeze, onto, dropO, elemsV, sized, evCmp, eqT, eqG, minV, evUn, evField, evExtract, evIndexA, evIndexV, evSlice, optInt, fillV, placeOf, thawed, del, isNilSlice, plain, plainL, cellsJ, junkOk, St.with, setSlots, setObs, wantedD, seqOf, noRange, setAll, Array.size, te, einl, inls]
      simp [encAt, atM, hv, h3.1, h4, encMk]
    · by_cases h4 : 0 ≤ p
      · have a1 : ¬ p < 0 := by omega
        have a2 : total rs ≤ p := by omega
        simp (maxSteps := 1000000) (implicitDefEqProofs := false) only [Try.ntmps34, Try.results34, efc34, h1, h2, a1, a2, bne_self_eq_false, ss, List.replicate, evOp, evPlain, evVal, evMem, St.eval, St.put, St.get, constV, List.set, lenV, sliceOf, arrayOf, fieldsOf, normOf, norm, firstRegion, look, maskFrom, evBin, evIndexS, evLoad, evVar, evStore, evFieldAddr, nameOf, St.alloc, St.drop, killL, kill, killAll, killObs, killOb, upd, cells?, part, retag, retagL, putIn, refFree, refFreeL, isNew, isNewL, Ty.isAgg, splice, idsL, ids, idsLL, reach, depth, St.dropL, resultsV, resultV, ↓reduceIte, Nat.reduceBEq, Nat.reduceAdd, Nat.reduceSub, Nat.reduceMul, Nat.reduceEqDiff, Nat.reduceLeDiff, Nat.reduceLT, effOf, effMem, effStore, effCall, effVar, effLit, effMake, effApp, Eff.ap, lend, evLit, evMake, evNil, freeze, onto, dropO, elemsV, sized, evCmp, eqT, eqG, minV, evUn, evField, evExtract, evIndexA, evIndexV, evSlice, optInt, fillV, placeOf, thawed, del, isNilSlice, plain, plainL, cellsJ, junkOk, St.with, setSlots, setObs, wantedD, seqOf, noRange, setAll, Array.size, te, einl, inls]
        simp [encAt, atM, hv, h4, expand_none ho a2, encMk, mk0]
      · have a1 : p < 0 := by omega
        simp (maxSteps := 1000000) (implicitDefEqProofs := false) only [Try.ntmps34, Try.results34, efc34, h1, h2, a1, bne_self_eq_false, ss, List.replicate, evOp, evPlain, evVal, evMem, St.eval, St.put, St.get, constV, List.set, lenV, sliceOf, arrayOf, fieldsOf, normOf, norm, firstRegion, look, maskFrom, evBin, evIndexS, evLoad, evVar, evStore, evFieldAddr, nameOf, St.alloc, St.drop, killL, kill, killAll, killObs, killOb, upd, cells?, part, retag, retagL, putIn, refFree, refFreeL, isNew, isNewL, Ty.isAgg, splice, idsL, ids, idsLL, reach, depth, St.dropL, resultsV, resultV, ↓reduceIte, Nat.reduceBEq, Nat.reduceAdd, Nat.reduceSub, Nat.reduceMul, Nat.reduceEqDiff, Nat.reduceLeDiff, Nat.reduceLT, effOf, effMem, effStore, effCall, effVar, effLit, effMake, effApp, Eff.ap, lend, evLit, evMake, evNil, freeze, onto, dropO, elemsV, sized, evCmp, eqT, eqG, minV, evUn, evField, evExtract, evIndexA, evIndexV, evSlice, optInt, fillV, placeOf, thawed, del, isNilSlice, plain, plainL, cellsJ, junkOk, St.with, setSlots, setObs, wantedD, seqOf, noRange, setAll, Array.size, te, einl, inls]
        simp [encAt, atM, hv, h4, encMk, mk0]
  · have hv' : (validate rs != 0) = true := by simp [hv]
    simp (maxSteps := 1000000) (implicitDefEqProofs := false) only [Try.ntmps34, Try.results34, efc34, h1, hv', ss, List.replicate, evOp, evPlain, evVal, evMem, St.eval, St.put, St.get, constV, List.set, lenV, sliceOf, arrayOf, fieldsOf, normOf, norm, firstRegion, look, maskFrom, evBin, evIndexS, evLoad, evVar, evStore, evFieldAddr, nameOf, St.alloc, St.drop, killL, kill, killAll, killObs, killOb, upd, cells?, part, retag, retagL, putIn, refFree, refFreeL, isNew, isNewL, Ty.isAgg, splice, idsL, ids, idsLL, reach, depth, St.dropL, resultsV, resultV, ↓reduceIte, Nat.reduceBEq, Nat.reduceAdd, Nat.reduceSub, Nat.reduceMul, Nat.reduceEqDiff, Nat.reduceLeDiff, Nat.reduceLT, effOf, effMem, effStore, effCall, effVar, effLit, effMake, effApp, Eff.ap, lend, evLit, evMake, evNil, freeze, onto, dropO, elemsV, sized, evCmp, eqT, eqG, minV, evUn, evField, evExtract, evIndexA, evIndexV, evSlice, optInt, fillV, placeOf, thawed, del, isNilSlice, plain, plainL, cellsJ, junkOk, St.with, setSlots, setObs, wantedD, seqOf, noRange, setAll, Array.size, te, einl, inls]
    simp [encAt, atM, hv, encMk, mk0]

/-- Where the first n runs but the first one begin. -/
def starts (js : List Run) (n : Nat) : List Int := (List.range (n - 1)).map fun k => total (js.take (k + 1))

theorem starts_succ (js : List Run) {n : Nat} (h : 1 ≤ n) : starts js (n + 1) = starts js n ++ [total (js.take n)] := by
  obtain ⟨k, rfl⟩ : ∃ k, n = k + 1 := ⟨n - 1, by omega⟩
  simp [starts, List.range_succ]

def encPl (x : List Int × Int) : V := .tup [.sl true (x.1.map vI), .int .i64 x.2]
def placesM (rs : List Run) : List Int × Int := if validate rs = 0 then (starts (joinedL rs) (joinedL rs).length, 0) else ([], validate rs)

theorem starts_len (js : List Run) (n : Nat) : (starts js n).length = n - 1 := by simp [starts]

theorem push_okay {B : Int} {acc : List Run} {r : Run} (h : ∀ q ∈ acc, 1 ≤ q.len) (hr : 1 ≤ r.len) (ht : total acc + r.len ≤ B) (hB : B ≤ 40000000) : (∀ q ∈ push acc r, 1 ≤ q.len) ∧ total (push acc r) = total acc + r.len := by
  rcases snoc_cases acc with rfl | ⟨i, s, rfl⟩
  · rw [push_nil]
    refine ⟨fun q hq => ?_, by rw [total_cons, total_nil]; omega⟩
    simp only [List.mem_singleton] at hq
    subst hq; exact hr
  · have hs := h s (by simp)
    have ho : Okay (i ++ [s]) := ⟨h, by omega⟩
    have h1 := okay_nonneg (okay_app ho).1
    have h2 : total (i ++ [s]) = total i + s.len := by rw [total_app, total_cons, total_nil]; omega
    by_cases e : s.mk' = r.mk'
    · rw [push_same _ _ _ e]
      have hw : IntKind.i64.wrap (s.len + r.len) = s.len + r.len := wrap_in (by omega)
      refine ⟨fun q hq => ?_, ?_⟩
      · rcases List.mem_append.1 hq with hq | hq
        · exact h q (by simp [hq])
        · simp only [List.mem_singleton] at hq
          subst hq
          simp only [merge, hw]; omega
      · rw [total_app, total_cons, total_nil, h2]
        simp only [merge, hw]; omega
    · rw [push_other _ _ _ e]
      refine ⟨fun q hq => ?_, ?_⟩
      · simp only [List.mem_append, List.mem_cons, List.not_mem_nil, or_false] at hq
        rcases hq with hq | rfl | rfl
        · exact h q (by simp [hq])
        · exact hs
        · exact hr
      · rw [total_app, total_cons, total_cons, total_nil, h2]; omega

theorem joined_okay {rs : List Run} (h : Okay rs) : Okay (joinedL rs) ∧ total (joinedL rs) = total rs := by
  have key : ∀ (rs acc : List Run), (∀ q ∈ acc, 1 ≤ q.len) → (∀ q ∈ rs, 1 ≤ q.len) → total acc + total rs ≤ 40000000 → (∀ q ∈ rs.foldl push acc, 1 ≤ q.len) ∧ total (rs.foldl push acc) = total acc + total rs := by
    intro rs
    induction rs with
    | nil => intro acc h _ _; exact ⟨h, by simp [total]⟩
    | cons r rs ih =>
      intro acc h1 h2 h3
      have hr := h2 r List.mem_cons_self
      rw [total_cons] at h3
      have hn : 0 ≤ total rs := by
        have : Okay rs ∨ 0 ≤ total rs := by
          by_cases h4 : total rs ≤ 40000000
          · exact .inl ⟨fun q hq => h2 q (List.mem_cons_of_mem _ hq), h4⟩
          · exact .inr (by omega)
        exact this.elim okay_nonneg id
      obtain ⟨k1, k2⟩ := push_okay (B := 40000000) h1 hr (by omega) (Int.le_refl _)
      obtain ⟨k3, k4⟩ := ih (push acc r) k1 (fun q hq => h2 q (List.mem_cons_of_mem _ hq)) (by omega)
      exact ⟨k3, by rw [List.foldl_cons, k4, k2, total_cons]; omega⟩
  obtain ⟨k1, k2⟩ := key rs [] (fun q h => by cases h) h.1 (by rw [total_nil]; have := h.2; omega)
  rw [total_nil, Int.zero_add] at k2
  refine ⟨⟨k1, ?_⟩, k2⟩
  have := h.2
  unfold joinedL
  omega

theorem take_okay {js : List Run} (h : Okay js) (n : Nat) : 0 ≤ total (js.take n) ∧ total (js.take n) ≤ total js := by
  have e : js.take n ++ js.drop n = js := List.take_append_drop n js
  have h2 := okay_app (pre := js.take n) (post := js.drop n) (by rw [e]; exact h)
  have h3 := okay_nonneg h2.1
  have h4 := okay_nonneg h2.2
  have : total js = total (js.take n) + total (js.drop n) := by rw [← total_app, e]
  omega

theorem total_take {js : List Run} {n : Nat} {r : Run} (h : js[n]? = some r) : total (js.take (n + 1)) = total (js.take n) + r.len := by
  rw [List.take_add_one, h, total_app]
  simp [total]

theorem c36 (rs : List Run) (hn : rs.length ≤ 100000) : (orcω E X0).call 36 [.sl false (rs.map encRun)] = some (encPl (placesM rs)) := by
  refine call_of rfl fn36 rfl ?_
  have h1 := c24 false rs (by omega)
  have h2 := c76 false rs (by omega)
  by_cases hv : validate rs = 0
  · have ho := (valid_okay hv).1
    rw [joinR_eq (valid_pos hv)] at h2
    obtain ⟨j1, j2⟩ := joined_okay ho
    have j3 := joined_le rs
    have j4 := j1.2
    rw [hv] at h1
    simp (maxSteps := 1000000) (implicitDefEqProofs := false) only [Try.ntmps36, Try.results36, efc36, fc36, h1, h2, bne_self_eq_false, ss, List.replicate, evOp, evPlain, evVal, evMem, St.eval, St.put, St.get, constV, List.set, lenV, sliceOf, arrayOf, fieldsOf, normOf, norm, firstRegion, look, maskFrom, evBin, evIndexS, evLoad, evVar, evStore, evFieldAddr, nameOf, St.alloc, St.drop, killL, kill, killAll, killObs, killOb, upd, cells?, part, retag, retagL, putIn, refFree, refFreeL, isNew, isNewL, Ty.isAgg, splice, idsL, ids, idsLL, reach, depth, St.dropL, resultsV, resultV, ↓reduceIte, Nat.reduceBEq, Nat.reduceAdd, Nat.reduceSub, Nat.reduceMul, Nat.reduceEqDiff, Nat.reduceLeDiff, Nat.reduceLT, effOf, effMem, effStore, effCall, effVar, effLit, effMake, effApp, Eff.ap, lend, evLit, evMake, evNil, freeze, onto, dropO, elemsV, sized, evCmp, eqT, eqG, minV, evUn, evField, evExtract, evIndexA, evIndexV, evSlice, optInt, fillV, placeOf, thawed, del, isNilSlice, plain, plainL, cellsJ, junkOk, St.with, setSlots, setObs, wantedD, seqOf, noRange, setAll, Array.size, te, einl, inls]
    simp only [placesM, if_pos hv]
    generalize joinedL rs = js at *
    generalize hr : loopAt _ _ _ _ _ _ = r; revert r
    refine loop_inv (ι := { i : Nat // i ≤ js.length - 1 }) (fun i => [(6, .own 6 0 i.1), (7, .int .i64 (total (js.take i.1))), (8, .int .i64 i.1)])
      (fun i => [(6, { es := 1, flat := true, t := true, app := true, elems := (starts js (i.1 + 1)).map vI })]) (fun i => js.length - i.1) ⟨0, Nat.zero_le _⟩ (by simp (maxSteps := 1000000) (implicitDefEqProofs := false) only [List.take_zero, total_nil, ss, List.replicate, evOp, evPlain, evVal, evMem, St.eval, St.put, St.get, constV, List.set, lenV, sliceOf, arrayOf, fieldsOf, normOf, norm, firstRegion, look, maskFrom, evBin, evIndexS, evLoad, evVar, evStore, evFieldAddr, nameOf, St.alloc, St.drop, killL, kill, killAll, killObs, killOb, upd, cells?, part, retag, retagL, putIn, refFree, refFreeL, isNew, isNewL, Ty.isAgg, splice, idsL, ids, idsLL, reach, depth, St.dropL, resultsV, resultV, ↓reduceIte, Nat.reduceBEq, Nat.reduceAdd, Nat.reduceSub, Nat.reduceMul, Nat.reduceEqDiff, Nat.reduceLeDiff, Nat.reduceLT, effOf, effMem, effStore, effCall, effVar, effLit, effMake, effApp, Eff.ap, lend, evLit, evMake, evNil, freeze, onto, dropO, elemsV, sized, evCmp, eqT, eqG, minV, evUn, evField, evExtract, evIndexA, evIndexV, evSlice, optInt, fillV, placeOf, thawed, del, isNilSlice, plain, plainL, cellsJ, junkOk, St.with, setSlots, setObs, wantedD, seqOf, noRange, setAll, Array.size, te, einl, inls]; simp [starts, total]) ?_
    rintro ⟨i, hi⟩
    have hl : (starts js (i + 1)).length = i := by rw [starts_len]; rfl
    by_cases hlt : i + 1 < js.length
    · obtain ⟨r, hr⟩ : ∃ r, js[i]? = some r := ⟨_, List.getElem?_eq_getElem (by omega)⟩
      have ht := total_take hr
      have t1 := take_okay j1 i
      have t2 := take_okay j1 (i + 1)
      have hs := starts_succ js (n := i + 1) (by omega)
      have a1 : (i : Int) + 1 < js.length := by omega
      have hroom : roomy (i + 1) 8 = true := by simp [roomy]; omega
      have hbig : i + 1 ≤ 4294967296 := by omega
      simp (maxSteps := 1000000) (implicitDefEqProofs := false) (disch := omega) only [a1, hr, Int.natCast_nonneg, Int.toNat_natCast, List.getElem?_map, encRun, hl, hroom, hbig, wrap_in, ss, List.replicate, evOp, evPlain, evVal, evMem, St.eval, St.put, St.get, constV, List.set, lenV, sliceOf, arrayOf, fieldsOf, normOf, norm, firstRegion, look, maskFrom, evBin, evIndexS, evLoad, evVar, evStore, evFieldAddr, nameOf, St.alloc, St.drop, killL, kill, killAll, killObs, killOb, upd, cells?, part, retag, retagL, putIn, refFree, refFreeL, isNew, isNewL, Ty.isAgg, splice, idsL, ids, idsLL, reach, depth, St.dropL, resultsV, resultV, ↓reduceIte, Nat.reduceBEq, Nat.reduceAdd, Nat.reduceSub, Nat.reduceMul, Nat.reduceEqDiff, Nat.reduceLeDiff, Nat.reduceLT, effOf, effMem, effStore, effCall, effVar, effLit, effMake, effApp, Eff.ap, lend, evLit, evMake, evNil, freeze, onto, dropO, elemsV, sized, evCmp, eqT, eqG, minV, evUn, evField, evExtract, evIndexA, evIndexV, evSlice, optInt, fillV, placeOf, thawed, del, isNilSlice, plain, plainL, cellsJ, junkOk, St.with, setSlots, setObs, wantedD, seqOf, noRange, setAll, Array.size, te, einl, inls]
      refine ⟨⟨i + 1, by omega⟩, ?_, by dsimp only; omega⟩
      simp [hs, ht, vI]
    · have a1 : ¬ (i : Int) + 1 < js.length := by omega
      have e1 : starts js (i + 1) = starts js js.length := by unfold starts; congr 2; omega
      have e2 : ((starts js (i + 1)).map vI).take i = (starts js js.length).map vI := by rw [e1]; refine List.take_of_length_le ?_; simp [starts_len]; omega
      simp (maxSteps := 1000000) (implicitDefEqProofs := false) (disch := omega) only [a1, Try.ntmps36, Try.results36, efc36, fc36, e2, hl, wrap_in, ss, List.replicate, evOp, evPlain, evVal, evMem, St.eval, St.put, St.get, constV, List.set, lenV, sliceOf, arrayOf, fieldsOf, normOf, norm, firstRegion, look, maskFrom, evBin, evIndexS, evLoad, evVar, evStore, evFieldAddr, nameOf, St.alloc, St.drop, killL, kill, killAll, killObs, killOb, upd, cells?, part, retag, retagL, putIn, refFree, refFreeL, isNew, isNewL, Ty.isAgg, splice, idsL, ids, idsLL, reach, depth, St.dropL, resultsV, resultV, ↓reduceIte, Nat.reduceBEq, Nat.reduceAdd, Nat.reduceSub, Nat.reduceMul, Nat.reduceEqDiff, Nat.reduceLeDiff, Nat.reduceLT, effOf, effMem, effStore, effCall, effVar, effLit, effMake, effApp, Eff.ap, lend, evLit, evMake, evNil, freeze, onto, dropO, elemsV, sized, evCmp, eqT, eqG, minV, evUn, evField, evExtract, evIndexA, evIndexV, evSlice, optInt, fillV, placeOf, thawed, del, isNilSlice, plain, plainL, cellsJ, junkOk, St.with, setSlots, setObs, wantedD, seqOf, noRange, setAll, Array.size, te, einl, inls]
      simp [encPl]
  · have hv' : (validate rs != 0) = true := by simp [hv]
    simp (maxSteps := 1000000) (implicitDefEqProofs := false) only [Try.ntmps36, Try.results36, efc36, fc36, h1, hv', ss, List.replicate, evOp, evPlain, evVal, evMem, St.eval, St.put, St.get, constV, List.set, lenV, sliceOf, arrayOf, fieldsOf, normOf, norm, firstRegion, look, maskFrom, evBin, evIndexS, evLoad, evVar, evStore, evFieldAddr, nameOf, St.alloc, St.drop, killL, kill, killAll, killObs, killOb, upd, cells?, part, retag, retagL, putIn, refFree, refFreeL, isNew, isNewL, Ty.isAgg, splice, idsL, ids, idsLL, reach, depth, St.dropL, resultsV, resultV, ↓reduceIte, Nat.reduceBEq, Nat.reduceAdd, Nat.reduceSub, Nat.reduceMul, Nat.reduceEqDiff, Nat.reduceLeDiff, Nat.reduceLT, effOf, effMem, effStore, effCall, effVar, effLit, effMake, effApp, Eff.ap, lend, evLit, evMake, evNil, freeze, onto, dropO, elemsV, sized, evCmp, eqT, eqG, minV, evUn, evField, evExtract, evIndexA, evIndexV, evSlice, optInt, fillV, placeOf, thawed, del, isNilSlice, plain, plainL, cellsJ, junkOk, St.with, setSlots, setObs, wantedD, seqOf, noRange, setAll, Array.size, te, einl, inls]
    simp [encPl, placesM, hv]

end Go.AM.A
end
