/-
The law of jobs.
-/
import Derived.Test.YtejjeckiplihbaaDUsed
import Derived.Test.YtejjeckiplihbaaDSaneB
set_option linter.unusedSimpArgs false
set_option maxRecDepth 20000

namespace Go.AM.D
open Go Go.AM Go.Proofs

theorem c39 (j : Job) : (orcω E X0).call 39 [encJob j] = some (encJob j) := by
  refine call_of rfl fn39 rfl ?_
  unfold encJob
  simp (maxSteps := 1000000) (implicitDefEqProofs := false) only [Try.ntmps39, Try.results39, efc39, ss, sd, evOp, evPlain, evVal, evMem, St.get, sliceOf, arrayOf, fieldsOf, normOf, norm, look, evVar, evFieldAddr, nameOf, St.alloc, St.drop, killOb, part, splice, depth, resultsV, ↓reduceIte, Nat.reduceBEq, Nat.reduceAdd, Nat.reduceSub, Nat.reduceMul, Nat.reduceEqDiff, Nat.reduceLeDiff, Nat.reduceLT, effOf, effMem, effVar, effLit, effMake, effApp, lend, evLit, evNil, freeze, evField, evIndexT, orNil, evSlice, placeOf, evMap, mapOf, keyOk, evFrame, closed, fixed, sameEs, wit, Option.isSome_some, St.with, wantedD, Array.size, te, einl, inls, efr]
theorem c41 (j : Job) : (orcω E X0).call 41 [encJob j] = some (encJob j) := by
  refine call_of rfl fn41 rfl ?_
  unfold encJob
  simp (maxSteps := 1000000) (implicitDefEqProofs := false) only [Try.ntmps41, Try.results41, efc41, ss, sd, evOp, evPlain, evVal, evMem, St.get, sliceOf, arrayOf, fieldsOf, normOf, norm, look, evVar, evFieldAddr, nameOf, St.alloc, St.drop, killOb, part, splice, depth, resultsV, ↓reduceIte, Nat.reduceBEq, Nat.reduceAdd, Nat.reduceSub, Nat.reduceMul, Nat.reduceEqDiff, Nat.reduceLeDiff, Nat.reduceLT, effOf, effMem, effVar, effLit, effMake, effApp, lend, evLit, evNil, freeze, evField, evIndexT, orNil, evSlice, placeOf, evMap, mapOf, keyOk, evFrame, closed, fixed, sameEs, wit, Option.isSome_some, St.with, wantedD, Array.size, te, einl, inls, efr]

theorem used_step (j : Job) (cuts : List Cut) (k : Nat) : (List.range (k + 1)).countP (rollUsed cuts) = (List.range k).countP (rollUsed cuts) + if rollUsed cuts k = true then 1 else 0 := by
  rw [List.range_succ, List.countP_append]
  simp [List.countP_cons]
set_option maxRecDepth 20000 in
set_option maxHeartbeats 8000000 in
theorem c48 (j : Job) (cuts : List Cut) (hn : cuts.length ≤ 1000000000) : (orcω E X0).call 48 [encJob j, .sl false (cuts.map encCut)] = some (.tup [.int .i64 (usedV j cuts), .int .i64 (checkM j cuts)]) := by
  refine call_of rfl fn48 rfl ?_
  have k1 := c53 j cuts hn
  unfold usedV
  by_cases he : checkM j cuts = 0
  rotate_left
  · rw [if_neg he]
    have q1 : (checkM j cuts != 0) = true := by simpa using he
    generalize checkM j cuts = e at *
    unfold encJob at k1 ⊢
    simp (maxSteps := 1000000) (implicitDefEqProofs := false) only [Try.ntmps48, Try.results48, efc48, fc48, k1, q1, ss, sd, evOp, evPlain, evVal, evMem, St.get, sliceOf, arrayOf, fieldsOf, normOf, norm, look, evVar, evFieldAddr, nameOf, St.alloc, St.drop, killOb, part, splice, depth, resultsV, ↓reduceIte, Nat.reduceBEq, Nat.reduceAdd, Nat.reduceSub, Nat.reduceMul, Nat.reduceEqDiff, Nat.reduceLeDiff, Nat.reduceLT, effOf, effMem, effVar, effLit, effMake, effApp, lend, evLit, evNil, freeze, evField, evIndexT, orNil, evSlice, placeOf, evMap, mapOf, keyOk, evFrame, closed, fixed, sameEs, wit, Option.isSome_some, St.with, wantedD, Array.size, te, einl, inls, efr]
  rw [if_pos he, he]
  rw [he] at k1
  have h5 := (checkM_zero he).job.nrs
  have hst := fun k => used_step j cuts k
  unfold usedN
  have h0 : (List.range 0).countP (rollUsed cuts) = 0 := rfl
  have hle : ∀ k, (List.range k).countP (rollUsed cuts) ≤ k := fun k => by
    have := List.countP_le_length (p := rollUsed cuts) (l := List.range k)
    rw [List.length_range] at this
    exact this
  generalize hU : (fun k => (List.range k).countP (rollUsed cuts)) = U at *
  have hU' : ∀ k, (List.range k).countP (rollUsed cuts) = U k := fun k => by rw [← hU]
  simp only [hU'] at hst h0 hle ⊢
  clear hU hU' he
  unfold encJob at k1 ⊢
  simp (maxSteps := 1000000) (implicitDefEqProofs := false) only [Try.ntmps48, Try.results48, efc48, fc48, k1, bne_self_eq_false, List.length_map, ss, sd, evOp, evPlain, evVal, evMem, St.get, sliceOf, arrayOf, fieldsOf, normOf, norm, look, evVar, evFieldAddr, nameOf, St.alloc, St.drop, killOb, part, splice, depth, resultsV, ↓reduceIte, Nat.reduceBEq, Nat.reduceAdd, Nat.reduceSub, Nat.reduceMul, Nat.reduceEqDiff, Nat.reduceLeDiff, Nat.reduceLT, effOf, effMem, effVar, effLit, effMake, effApp, lend, evLit, evNil, freeze, evField, evIndexT, orNil, evSlice, placeOf, evMap, mapOf, keyOk, evFrame, closed, fixed, sameEs, wit, Option.isSome_some, St.with, wantedD, Array.size, te, einl, inls, efr]
  generalize hr : loopAt _ _ _ _ _ _ = r; revert r
  refine loop_nat j.rs.length (fun i _ => [(7, .int .i64 (U i : Nat)), (8, .int .i64 (i : Nat))]) (fun _ _ => []) (fun _ (_ : Unit) => True) () (by omega) (by simp (maxSteps := 1000000) (implicitDefEqProofs := false) only [h0, Int.natCast_zero, ss, sd, evOp, evPlain, evVal, evMem, St.get, sliceOf, arrayOf, fieldsOf, normOf, norm, look, evVar, evFieldAddr, nameOf, St.alloc, St.drop, killOb, part, splice, depth, resultsV, ↓reduceIte, Nat.reduceBEq, Nat.reduceAdd, Nat.reduceSub, Nat.reduceMul, Nat.reduceEqDiff, Nat.reduceLeDiff, Nat.reduceLT, effOf, effMem, effVar, effLit, effMake, effApp, lend, evLit, evNil, freeze, evField, evIndexT, orNil, evSlice, placeOf, evMap, mapOf, keyOk, evFrame, closed, fixed, sameEs, wit, Option.isSome_some, St.with, wantedD, Array.size, te, einl, inls, efr]) trivial (fun _ _ => ?_) (fun i _ _ a1 a2 a3 => ?_)
  · simp (maxSteps := 1000000) (implicitDefEqProofs := false) only [Int.lt_irrefl, List.length_map, Try.ntmps48, Try.results48, efc48, fc48, ss, sd, evOp, evPlain, evVal, evMem, St.get, sliceOf, arrayOf, fieldsOf, normOf, norm, look, evVar, evFieldAddr, nameOf, St.alloc, St.drop, killOb, part, splice, depth, resultsV, ↓reduceIte, Nat.reduceBEq, Nat.reduceAdd, Nat.reduceSub, Nat.reduceMul, Nat.reduceEqDiff, Nat.reduceLeDiff, Nat.reduceLT, effOf, effMem, effVar, effLit, effMake, effApp, lend, evLit, evNil, freeze, evField, evIndexT, orNil, evSlice, placeOf, evMap, mapOf, keyOk, evFrame, closed, fixed, sameEs, wit, Option.isSome_some, St.with, wantedD, Array.size, te, einl, inls, efr]
  simp (maxSteps := 1000000) (implicitDefEqProofs := false) only [a2, List.length_map, ss, sd, evOp, evPlain, evVal, evMem, St.get, sliceOf, arrayOf, fieldsOf, normOf, norm, look, evVar, evFieldAddr, nameOf, St.alloc, St.drop, killOb, part, splice, depth, resultsV, ↓reduceIte, Nat.reduceBEq, Nat.reduceAdd, Nat.reduceSub, Nat.reduceMul, Nat.reduceEqDiff, Nat.reduceLeDiff, Nat.reduceLT, effOf, effMem, effVar, effLit, effMake, effApp, lend, evLit, evNil, freeze, evField, evIndexT, orNil, evSlice, placeOf, evMap, mapOf, keyOk, evFrame, closed, fixed, sameEs, wit, Option.isSome_some, St.with, wantedD, Array.size, te, einl, inls, efr]
  generalize hr : loopAt _ _ _ _ _ _ = r; revert r
  refine loop_list cuts (fun pre u => [(9, .int .i64 (if rollUsed pre i = true then 1 else 0)), (10, .int .i64 pre.length)]) (fun _ _ => []) (fun _ (_ : Unit) => True) () (by omega) (by simp (maxSteps := 1000000) (implicitDefEqProofs := false) only [rollUsed, List.any_nil, Bool.false_eq_true, if_false, ss, sd, evOp, evPlain, evVal, evMem, St.get, sliceOf, arrayOf, fieldsOf, normOf, norm, look, evVar, evFieldAddr, nameOf, St.alloc, St.drop, killOb, part, splice, depth, resultsV, ↓reduceIte, Nat.reduceBEq, Nat.reduceAdd, Nat.reduceSub, Nat.reduceMul, Nat.reduceEqDiff, Nat.reduceLeDiff, Nat.reduceLT, effOf, effMem, effVar, effLit, effMake, effApp, lend, evLit, evNil, freeze, evField, evIndexT, orNil, evSlice, placeOf, evMap, mapOf, keyOk, evFrame, closed, fixed, sameEs, wit, Option.isSome_some, St.with, wantedD, Array.size, te, einl, inls, efr]) trivial (fun _ _ => ?_) (fun pre x post _ hp _ g1 g2 g3 g4 => ?_)
  · have e1 := hst i
    have b1 := hle i
    cases hr : rollUsed cuts i with
    | true =>
      rw [hr, if_pos rfl] at e1
      have w1 : IntKind.i64.wrap ((U i : Int) + 1) = ((U (i + 1) : Nat) : Int) := by rw [e1, wrap_in (by omega)]; omega
      simp (maxSteps := 1000000) (implicitDefEqProofs := false) only [Int.lt_irrefl, a3, w1, if_true, List.length_map, ss, sd, evOp, evPlain, evVal, evMem, St.get, sliceOf, arrayOf, fieldsOf, normOf, norm, look, evVar, evFieldAddr, nameOf, St.alloc, St.drop, killOb, part, splice, depth, resultsV, ↓reduceIte, Nat.reduceBEq, Nat.reduceAdd, Nat.reduceSub, Nat.reduceMul, Nat.reduceEqDiff, Nat.reduceLeDiff, Nat.reduceLT, effOf, effMem, effVar, effLit, effMake, effApp, lend, evLit, evNil, freeze, evField, evIndexT, orNil, evSlice, placeOf, evMap, mapOf, keyOk, evFrame, closed, fixed, sameEs, wit, Option.isSome_some, St.with, wantedD, Array.size, te, einl, inls, efr]
      (first | exact ⟨(), trivial⟩ | refine ⟨(), ?_, trivial⟩ | skip)
    | false =>
      rw [hr, if_neg (by decide)] at e1
      have w1 : IntKind.i64.wrap ((U i : Int) + 0) = ((U (i + 1) : Nat) : Int) := by rw [e1, wrap_in (by omega)]; omega
      simp (maxSteps := 1000000) (implicitDefEqProofs := false) only [Int.lt_irrefl, a3, w1, Bool.false_eq_true, if_false, List.length_map, ss, sd, evOp, evPlain, evVal, evMem, St.get, sliceOf, arrayOf, fieldsOf, normOf, norm, look, evVar, evFieldAddr, nameOf, St.alloc, St.drop, killOb, part, splice, depth, resultsV, ↓reduceIte, Nat.reduceBEq, Nat.reduceAdd, Nat.reduceSub, Nat.reduceMul, Nat.reduceEqDiff, Nat.reduceLeDiff, Nat.reduceLT, effOf, effMem, effVar, effLit, effMake, effApp, lend, evLit, evNil, freeze, evField, evIndexT, orNil, evSlice, placeOf, evMap, mapOf, keyOk, evFrame, closed, fixed, sameEs, wit, Option.isSome_some, St.with, wantedD, Array.size, te, einl, inls, efr]
      (first | exact ⟨(), trivial⟩ | refine ⟨(), ?_, trivial⟩ | skip)
  · have e1 : rollUsed (pre ++ [x]) i = (rollUsed pre i || decide (x.r = (i : Int))) := by unfold rollUsed; rw [List.any_append]; simp
    by_cases hx : x.r = (i : Int)
    · have q1 : (x.r == (i : Int)) = true := by simpa using hx
      rw [decide_eq_true hx, Bool.or_true] at e1
      simp (maxSteps := 1000000) (implicitDefEqProofs := false) only [g1, g2, g3, g4, q1, e1, encCut, if_true, Int.natCast_nonneg, Int.toNat_natCast, List.getElem?_map, List.length_map, ss, sd, evOp, evPlain, evVal, evMem, St.get, sliceOf, arrayOf, fieldsOf, normOf, norm, look, evVar, evFieldAddr, nameOf, St.alloc, St.drop, killOb, part, splice, depth, resultsV, ↓reduceIte, Nat.reduceBEq, Nat.reduceAdd, Nat.reduceSub, Nat.reduceMul, Nat.reduceEqDiff, Nat.reduceLeDiff, Nat.reduceLT, effOf, effMem, effVar, effLit, effMake, effApp, lend, evLit, evNil, freeze, evField, evIndexT, orNil, evSlice, placeOf, evMap, mapOf, keyOk, evFrame, closed, fixed, sameEs, wit, Option.isSome_some, St.with, wantedD, Array.size, te, einl, inls, efr]
      (first | exact ⟨(), trivial⟩ | refine ⟨(), ?_, trivial⟩ | skip)
    · have q1 : (x.r == (i : Int)) = false := by simpa using hx
      rw [decide_eq_false hx, Bool.or_false] at e1
      simp (maxSteps := 1000000) (implicitDefEqProofs := false) only [g1, g2, g3, g4, q1, e1, encCut, Int.natCast_nonneg, Int.toNat_natCast, List.getElem?_map, List.length_map, ss, sd, evOp, evPlain, evVal, evMem, St.get, sliceOf, arrayOf, fieldsOf, normOf, norm, look, evVar, evFieldAddr, nameOf, St.alloc, St.drop, killOb, part, splice, depth, resultsV, ↓reduceIte, Nat.reduceBEq, Nat.reduceAdd, Nat.reduceSub, Nat.reduceMul, Nat.reduceEqDiff, Nat.reduceLeDiff, Nat.reduceLT, effOf, effMem, effVar, effLit, effMake, effApp, lend, evLit, evNil, freeze, evField, evIndexT, orNil, evSlice, placeOf, evMap, mapOf, keyOk, evFrame, closed, fixed, sameEs, wit, Option.isSome_some, St.with, wantedD, Array.size, te, einl, inls, efr]
      (first | exact ⟨(), trivial⟩ | refine ⟨(), ?_, trivial⟩ | skip)

theorem okT12 : okCode (Try.f12.body.getD .skip) = true := by decide +kernel
set_option maxRecDepth 20000 in
set_option maxHeartbeats 8000000 in
theorem c12 (j : Job) (cuts : List Cut) : (orcω E X0).call 12 [encJob j, .sl false (cuts.map encCut)] = some (.bool true) := by
  refine call_of rfl fn12 rfl ?_
  have hok := okT12
  simp only [Try.f12, Option.getD_some, okCode, Bool.and_eq_true, Bool.and_true, Bool.true_and] at hok
  have k0 := c17
  by_cases h40 : (40 : Int) < cuts.length
  · unfold encJob
    simp (maxSteps := 1000000) (implicitDefEqProofs := false) only [Try.ntmps12, Try.results12, efc12, k0, h40, List.length_map, ss, sd, evOp, evPlain, evVal, evMem, St.get, sliceOf, arrayOf, fieldsOf, normOf, norm, look, evVar, evFieldAddr, nameOf, St.alloc, St.drop, killOb, part, splice, depth, resultsV, ↓reduceIte, Nat.reduceBEq, Nat.reduceAdd, Nat.reduceSub, Nat.reduceMul, Nat.reduceEqDiff, Nat.reduceLeDiff, Nat.reduceLT, effOf, effMem, effVar, effLit, effMake, effApp, lend, evLit, evNil, freeze, evField, evIndexT, orNil, evSlice, placeOf, evMap, mapOf, keyOk, evFrame, closed, fixed, sameEs, wit, Option.isSome_some, St.with, wantedD, Array.size, te, einl, inls, efr]
  have k1 := c39 j
  have k2 := c41 j
  have k3 := c49 j cuts (by omega)
  have k4 := c48 j cuts (by omega)
  have k5 := c50 j
  have k6 := c51 j
  have k7 := c52 j cuts (by omega)
  have k8 := c53 j cuts (by omega)
  generalize usedV j cuts = uv at *
  generalize checkM j cuts = cm at *
  generalize jobE j = je at *
  unfold encJob at k1 k2 k3 k4 k5 k6 k7 k8 ⊢
  simp (maxSteps := 1000000) (implicitDefEqProofs := false) only [Try.ntmps12, Try.results12, efc12, k0, h40, k1, k2, k3, k4, k5, k6, k7, k8, evRegion_st hok, beq_self_eq_true, List.length_map, ss, sd, evOp, evPlain, evVal, evMem, St.get, sliceOf, arrayOf, fieldsOf, normOf, norm, look, evVar, evFieldAddr, nameOf, St.alloc, St.drop, killOb, part, splice, depth, resultsV, ↓reduceIte, Nat.reduceBEq, Nat.reduceAdd, Nat.reduceSub, Nat.reduceMul, Nat.reduceEqDiff, Nat.reduceLeDiff, Nat.reduceLT, effOf, effMem, effVar, effLit, effMake, effApp, lend, evLit, evNil, freeze, evField, evIndexT, orNil, evSlice, placeOf, evMap, mapOf, keyOk, evFrame, closed, fixed, sameEs, wit, Option.isSome_some, St.with, wantedD, Array.size, te, einl, inls, efr]
end Go.AM.D
