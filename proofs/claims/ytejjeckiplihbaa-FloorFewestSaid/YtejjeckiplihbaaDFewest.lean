/-
FloorFewest: both sides agree; the cuts are accepted and use so many rolls; the lower bound.
-/
import Derived.Test.YtejjeckiplihbaaDRefW
import Derived.Test.YtejjeckiplihbaaDJobs
import Derived.Test.YtejjeckiplihbaaDSaneB
set_option linter.unusedSimpArgs false
set_option maxRecDepth 20000

namespace Go.AM.D
open Go Go.AM Go.Proofs

set_option maxRecDepth 20000 in
set_option maxHeartbeats 16000000 in
theorem c11 (j : Job) : (orcω E X0).call 11 [encJob j] = some (.bool true) := by
  refine call_of rfl fn11 rfl ?_
  have k0 := c17
  have k1 := c39 j
  have k2 := c41 j
  have k3 := c43 j
  have k4 := c45 j
  have k5 := c46 j
  have k6 := c47 j
  rw [lb_ref j] at k6
  have few : fewV j = if ¬ jobE j = 0 then .tup [.sl true [], .int .i64 0, .bool false, .int .i64 (jobE j)] else (match fewM j with
    | some (l, c) => .tup [.sl true (l.map encCut), .int .i64 (c : Nat), .bool true, .int .i64 0]
    | none => .tup [.sl true [], .int .i64 0, .bool false, .int .i64 0]) := rfl
  by_cases hje : jobE j = 0
  rotate_left
  · rw [few, if_pos hje] at k3
    have e1 : refV j = .tup [.int .i64 0, .bool false, .int .i64 (jobE j)] := by unfold refV; rw [if_pos hje]
    have e2 : lbV j = .tup [.int .i64 0, .bool false, .int .i64 (jobE j)] := by unfold lbV; rw [if_pos hje]
    rw [e1] at k4
    rw [e2] at k5 k6
    generalize jobE j = e at *
    unfold encJob at *
    simp (maxSteps := 1000000) (implicitDefEqProofs := false) only [Try.ntmps11, Try.results11, efc11, k0, k1, k2, k3, k4, k5, k6, bne_self_eq_false, beq_self_eq_true, List.length_nil, Int.natCast_zero, ss, sd, evOp, evPlain, evVal, evMem, St.get, sliceOf, arrayOf, fieldsOf, normOf, norm, look, evVar, evFieldAddr, nameOf, St.alloc, St.drop, killOb, part, splice, depth, resultsV, ↓reduceIte, Nat.reduceBEq, Nat.reduceAdd, Nat.reduceSub, Nat.reduceMul, Nat.reduceEqDiff, Nat.reduceLeDiff, Nat.reduceLT, effOf, effMem, effVar, effLit, effMake, effApp, lend, evLit, evNil, freeze, evField, evIndexT, orNil, evSlice, placeOf, evMap, mapOf, keyOk, evFrame, closed, fixed, sameEs, wit, Option.isSome_some, St.with, wantedD, Array.size, te, einl, inls, efr]
  rw [few, if_neg (fun h => h hje)] at k3
  rcases few_ref hje with ⟨l, n, hf, hr⟩ | ⟨hf, hr⟩
  · rw [hf] at k3
    dsimp only at k3
    rw [hr] at k4
    obtain ⟨hacc, hused⟩ := accept hje hf
    obtain ⟨hj, hjo⟩ := jobE_zero hje
    have hfit := checkM_zero hacc
    have hll := hfit.len
    have h6 := hj.nss
    have k7 := c48 j l (by omega)
    have hu : usedV j l = (n : Nat) := by unfold usedV; rw [if_pos hacc, hused]
    rw [hacc, hu] at k7
    have hlb : ∃ a : Int, lbV j = .tup [.int .i64 a, .bool true, .int .i64 0] ∧ a ≤ n := by
      unfold lbV
      rw [if_neg (fun h => h hje)]
      have hst : ∀ s ∈ j.ss, 0 ≤ s.a ∧ s.a ≤ s.b ∧ s.b ≤ 60 := fun s hs => by have := hj.ss s hs; omega
      have hneed := (lenM_in hst).1
      by_cases hz : lenM j.ss = 0
      · rw [if_pos hz]
        exact ⟨0, rfl, by omega⟩
      · rw [if_neg hz]
        have h3 := lb_few hj hjo hf (by omega)
        exact ⟨_, by rw [decide_eq_true h3.1], h3.2⟩
    obtain ⟨a, hl1, hl2⟩ := hlb
    rw [hl1] at k5 k6
    unfold encJob at *
    simp (maxSteps := 1000000) (implicitDefEqProofs := false) only [Try.ntmps11, Try.results11, efc11, k0, k1, k2, k3, k4, k5, k6, k7, hl2, bne_self_eq_false, beq_self_eq_true, ss, sd, evOp, evPlain, evVal, evMem, St.get, sliceOf, arrayOf, fieldsOf, normOf, norm, look, evVar, evFieldAddr, nameOf, St.alloc, St.drop, killOb, part, splice, depth, resultsV, ↓reduceIte, Nat.reduceBEq, Nat.reduceAdd, Nat.reduceSub, Nat.reduceMul, Nat.reduceEqDiff, Nat.reduceLeDiff, Nat.reduceLT, effOf, effMem, effVar, effLit, effMake, effApp, lend, evLit, evNil, freeze, evField, evIndexT, orNil, evSlice, placeOf, evMap, mapOf, keyOk, evFrame, closed, fixed, sameEs, wit, Option.isSome_some, St.with, wantedD, Array.size, te, einl, inls, efr]
  · rw [hf] at k3
    dsimp only at k3
    rw [hr] at k4
    obtain ⟨a, fo, g, hl1⟩ : ∃ (a : Int) (b : Bool) (c : Int), lbV j = .tup [.int .i64 a, .bool b, .int .i64 c] := by
      unfold lbV
      repeat' split
      all_goals exact ⟨_, _, _, rfl⟩
    rw [hl1] at k5 k6
    unfold encJob at *
    cases fo with
    | false => simp (maxSteps := 1000000) (implicitDefEqProofs := false) only [Try.ntmps11, Try.results11, efc11, k0, k1, k2, k3, k4, k5, k6, bne_self_eq_false, beq_self_eq_true, List.length_nil, Int.natCast_zero, ss, sd, evOp, evPlain, evVal, evMem, St.get, sliceOf, arrayOf, fieldsOf, normOf, norm, look, evVar, evFieldAddr, nameOf, St.alloc, St.drop, killOb, part, splice, depth, resultsV, ↓reduceIte, Nat.reduceBEq, Nat.reduceAdd, Nat.reduceSub, Nat.reduceMul, Nat.reduceEqDiff, Nat.reduceLeDiff, Nat.reduceLT, effOf, effMem, effVar, effLit, effMake, effApp, lend, evLit, evNil, freeze, evField, evIndexT, orNil, evSlice, placeOf, evMap, mapOf, keyOk, evFrame, closed, fixed, sameEs, wit, Option.isSome_some, St.with, wantedD, Array.size, te, einl, inls, efr]
    | true => simp (maxSteps := 1000000) (implicitDefEqProofs := false) only [Try.ntmps11, Try.results11, efc11, k0, k1, k2, k3, k4, k5, k6, bne_self_eq_false, beq_self_eq_true, List.length_nil, Int.natCast_zero, ss, sd, evOp, evPlain, evVal, evMem, St.get, sliceOf, arrayOf, fieldsOf, normOf, norm, look, evVar, evFieldAddr, nameOf, St.alloc, St.drop, killOb, part, splice, depth, resultsV, ↓reduceIte, Nat.reduceBEq, Nat.reduceAdd, Nat.reduceSub, Nat.reduceMul, Nat.reduceEqDiff, Nat.reduceLeDiff, Nat.reduceLT, effOf, effMem, effVar, effLit, effMake, effApp, lend, evLit, evNil, freeze, evField, evIndexT, orNil, evSlice, placeOf, evMap, mapOf, keyOk, evFrame, closed, fixed, sameEs, wit, Option.isSome_some, St.with, wantedD, Array.size, te, einl, inls, efr]
end Go.AM.D
