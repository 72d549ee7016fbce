/-
Jobs: which are valid.
-/
import Derived.Test.YtejjeckiplihbaaDJobP
import Derived.Test.YtejjeckiplihbaaDNext
set_option linter.unusedSimpArgs false
set_option maxRecDepth 20000

namespace Go.AM.D
open Go Go.AM Go.Proofs

set_option maxRecDepth 20000 in
set_option maxHeartbeats 8000000 in
theorem c50 (j : Job) : (orcω E X0).call 50 [encJob j] = some (.int .i64 (jobE j)) := by
  refine call_of rfl fn50 rfl ?_
  have kS := c62
  have kR := fun r => c61 r j.rep
  have k3 := c63 j.rep 1 144
  have eL := jobE_large (j := j)
  have eB := jobE_bad (j := j)
  have eO := jobE_ok (j := j)
  have iff := jobOk_iff (j := j)
  rw [← inB_iff] at iff
  generalize jobE j = res at *
  generalize jobOk j = ok at *
  obtain ⟨sl, rl, rep⟩ := j
  unfold encJob
  dsimp only at *
  by_cases p1 : (6 : Int) < sl.length
  · have e1 := eL (by omega)
    simp (maxSteps := 1000000) (implicitDefEqProofs := false) only [Try.ntmps50, Try.results50, efc50, fc50, p1, e1, List.length_map, ss, sd, evOp, evPlain, evVal, evMem, St.get, sliceOf, arrayOf, fieldsOf, normOf, norm, look, evVar, evFieldAddr, nameOf, St.alloc, St.drop, killOb, part, splice, depth, resultsV, ↓reduceIte, Nat.reduceBEq, Nat.reduceAdd, Nat.reduceSub, Nat.reduceMul, Nat.reduceEqDiff, Nat.reduceLeDiff, Nat.reduceLT, effOf, effMem, effVar, effLit, effMake, effApp, lend, evLit, evNil, freeze, evField, evIndexT, orNil, evSlice, placeOf, evMap, mapOf, keyOk, evFrame, closed, fixed, sameEs, wit, Option.isSome_some, St.with, wantedD, Array.size, te, einl, inls, efr]
  by_cases p2 : (5 : Int) < rl.length
  · have e1 := eL (by omega)
    simp (maxSteps := 1000000) (implicitDefEqProofs := false) only [Try.ntmps50, Try.results50, efc50, fc50, p1, p2, e1, List.length_map, ss, sd, evOp, evPlain, evVal, evMem, St.get, sliceOf, arrayOf, fieldsOf, normOf, norm, look, evVar, evFieldAddr, nameOf, St.alloc, St.drop, killOb, part, splice, depth, resultsV, ↓reduceIte, Nat.reduceBEq, Nat.reduceAdd, Nat.reduceSub, Nat.reduceMul, Nat.reduceEqDiff, Nat.reduceLeDiff, Nat.reduceLT, effOf, effMem, effVar, effLit, effMake, effApp, lend, evLit, evNil, freeze, evField, evIndexT, orNil, evSlice, placeOf, evMap, mapOf, keyOk, evFrame, closed, fixed, sameEs, wit, Option.isSome_some, St.with, wantedD, Array.size, te, einl, inls, efr]
  have eB := eB (by omega)
  have eO := eO (by omega)
  simp (maxSteps := 1000000) (implicitDefEqProofs := false) only [Try.ntmps50, Try.results50, efc50, fc50, p1, p2, List.length_map, ss, sd, evOp, evPlain, evVal, evMem, St.get, sliceOf, arrayOf, fieldsOf, normOf, norm, look, evVar, evFieldAddr, nameOf, St.alloc, St.drop, killOb, part, splice, depth, resultsV, ↓reduceIte, Nat.reduceBEq, Nat.reduceAdd, Nat.reduceSub, Nat.reduceMul, Nat.reduceEqDiff, Nat.reduceLeDiff, Nat.reduceLT, effOf, effMem, effVar, effLit, effMake, effApp, lend, evLit, evNil, freeze, evField, evIndexT, orNil, evSlice, placeOf, evMap, mapOf, keyOk, evFrame, closed, fixed, sameEs, wit, Option.isSome_some, St.with, wantedD, Array.size, te, einl, inls, efr]
  generalize hr : loopAt _ _ _ _ _ _ = r; revert r
  refine loop_list sl (fun pre _ => [(20, .int .i64 pre.length)]) (fun _ _ => []) (fun pre (_ : Unit) => ∀ s ∈ pre, stripOk s = true) () (by omega) (by simp (maxSteps := 1000000) (implicitDefEqProofs := false) only [ss, sd, evOp, evPlain, evVal, evMem, St.get, sliceOf, arrayOf, fieldsOf, normOf, norm, look, evVar, evFieldAddr, nameOf, St.alloc, St.drop, killOb, part, splice, depth, resultsV, ↓reduceIte, Nat.reduceBEq, Nat.reduceAdd, Nat.reduceSub, Nat.reduceMul, Nat.reduceEqDiff, Nat.reduceLeDiff, Nat.reduceLT, effOf, effMem, effVar, effLit, effMake, effApp, lend, evLit, evNil, freeze, evField, evIndexT, orNil, evSlice, placeOf, evMap, mapOf, keyOk, evFrame, closed, fixed, sameEs, wit, Option.isSome_some, St.with, wantedD, Array.size, te, einl, inls, efr]) (fun _ h => by cases h) (fun _ hS => ?_) (fun pre x post _ hp hS g1 g2 g3 g4 => ?_)
  rotate_left
  · have kx := kS x
    cases hx : stripOk x with
    | false =>
      rw [hx] at kx
      have e1 := eB (fun h => by have := (iff.1 h).2.1 x (by rw [hp]; simp); rw [hx] at this; cases this)
      obtain ⟨sx, sa, sb⟩ := x
      unfold encStrip at kx
      simp (maxSteps := 1000000) (implicitDefEqProofs := false) only [g1, g2, g3, g4, kx, e1, encStrip, Int.natCast_nonneg, Int.toNat_natCast, List.getElem?_map, List.length_map, Try.ntmps50, Try.results50, efc50, fc50, ss, sd, evOp, evPlain, evVal, evMem, St.get, sliceOf, arrayOf, fieldsOf, normOf, norm, look, evVar, evFieldAddr, nameOf, St.alloc, St.drop, killOb, part, splice, depth, resultsV, ↓reduceIte, Nat.reduceBEq, Nat.reduceAdd, Nat.reduceSub, Nat.reduceMul, Nat.reduceEqDiff, Nat.reduceLeDiff, Nat.reduceLT, effOf, effMem, effVar, effLit, effMake, effApp, lend, evLit, evNil, freeze, evField, evIndexT, orNil, evSlice, placeOf, evMap, mapOf, keyOk, evFrame, closed, fixed, sameEs, wit, Option.isSome_some, St.with, wantedD, Array.size, te, einl, inls, efr]
    | true =>
      rw [hx] at kx
      obtain ⟨sx, sa, sb⟩ := x
      unfold encStrip at kx
      simp (maxSteps := 1000000) (implicitDefEqProofs := false) only [g1, g2, g3, g4, kx, encStrip, Int.natCast_nonneg, Int.toNat_natCast, List.getElem?_map, List.length_map, ss, sd, evOp, evPlain, evVal, evMem, St.get, sliceOf, arrayOf, fieldsOf, normOf, norm, look, evVar, evFieldAddr, nameOf, St.alloc, St.drop, killOb, part, splice, depth, resultsV, ↓reduceIte, Nat.reduceBEq, Nat.reduceAdd, Nat.reduceSub, Nat.reduceMul, Nat.reduceEqDiff, Nat.reduceLeDiff, Nat.reduceLT, effOf, effMem, effVar, effLit, effMake, effApp, lend, evLit, evNil, freeze, evField, evIndexT, orNil, evSlice, placeOf, evMap, mapOf, keyOk, evFrame, closed, fixed, sameEs, wit, Option.isSome_some, St.with, wantedD, Array.size, te, einl, inls, efr]
      refine ⟨(), fun s hs => ?_⟩
      rcases List.mem_append.1 hs with hs | hs
      · exact hS s hs
      · rw [List.mem_singleton.1 hs]; exact hx
  simp (maxSteps := 1000000) (implicitDefEqProofs := false) only [Int.lt_irrefl, List.length_map, ss, sd, evOp, evPlain, evVal, evMem, St.get, sliceOf, arrayOf, fieldsOf, normOf, norm, look, evVar, evFieldAddr, nameOf, St.alloc, St.drop, killOb, part, splice, depth, resultsV, ↓reduceIte, Nat.reduceBEq, Nat.reduceAdd, Nat.reduceSub, Nat.reduceMul, Nat.reduceEqDiff, Nat.reduceLeDiff, Nat.reduceLT, effOf, effMem, effVar, effLit, effMake, effApp, lend, evLit, evNil, freeze, evField, evIndexT, orNil, evSlice, placeOf, evMap, mapOf, keyOk, evFrame, closed, fixed, sameEs, wit, Option.isSome_some, St.with, wantedD, Array.size, te, einl, inls, efr]
  generalize hr : loopAt _ _ _ _ _ _ = r; revert r
  refine loop_list rl (fun pre _ => [(31, .int .i64 pre.length)]) (fun _ _ => []) (fun pre (_ : Unit) => ∀ r ∈ pre, rollOk r rep = true) () (by omega) (by simp (maxSteps := 1000000) (implicitDefEqProofs := false) only [ss, sd, evOp, evPlain, evVal, evMem, St.get, sliceOf, arrayOf, fieldsOf, normOf, norm, look, evVar, evFieldAddr, nameOf, St.alloc, St.drop, killOb, part, splice, depth, resultsV, ↓reduceIte, Nat.reduceBEq, Nat.reduceAdd, Nat.reduceSub, Nat.reduceMul, Nat.reduceEqDiff, Nat.reduceLeDiff, Nat.reduceLT, effOf, effMem, effVar, effLit, effMake, effApp, lend, evLit, evNil, freeze, evField, evIndexT, orNil, evSlice, placeOf, evMap, mapOf, keyOk, evFrame, closed, fixed, sameEs, wit, Option.isSome_some, St.with, wantedD, Array.size, te, einl, inls, efr]) (fun _ h => by cases h) (fun _ hR => ?_) (fun pre x post _ hp hR g1 g2 g3 g4 => ?_)
  rotate_left
  · have kx := kR x
    cases hx : rollOk x rep with
    | false =>
      rw [hx] at kx
      have e1 := eB (fun h => by have := (iff.1 h).2.2 x (by rw [hp]; simp); rw [hx] at this; cases this)
      obtain ⟨sx, sa, sb⟩ := x
      unfold encRoll at kx
      simp (maxSteps := 1000000) (implicitDefEqProofs := false) only [g1, g2, g3, g4, kx, e1, encRoll, Int.natCast_nonneg, Int.toNat_natCast, List.getElem?_map, List.length_map, Try.ntmps50, Try.results50, efc50, fc50, ss, sd, evOp, evPlain, evVal, evMem, St.get, sliceOf, arrayOf, fieldsOf, normOf, norm, look, evVar, evFieldAddr, nameOf, St.alloc, St.drop, killOb, part, splice, depth, resultsV, ↓reduceIte, Nat.reduceBEq, Nat.reduceAdd, Nat.reduceSub, Nat.reduceMul, Nat.reduceEqDiff, Nat.reduceLeDiff, Nat.reduceLT, effOf, effMem, effVar, effLit, effMake, effApp, lend, evLit, evNil, freeze, evField, evIndexT, orNil, evSlice, placeOf, evMap, mapOf, keyOk, evFrame, closed, fixed, sameEs, wit, Option.isSome_some, St.with, wantedD, Array.size, te, einl, inls, efr]
    | true =>
      rw [hx] at kx
      obtain ⟨sx, sa, sb⟩ := x
      unfold encRoll at kx
      simp (maxSteps := 1000000) (implicitDefEqProofs := false) only [g1, g2, g3, g4, kx, encRoll, Int.natCast_nonneg, Int.toNat_natCast, List.getElem?_map, List.length_map, ss, sd, evOp, evPlain, evVal, evMem, St.get, sliceOf, arrayOf, fieldsOf, normOf, norm, look, evVar, evFieldAddr, nameOf, St.alloc, St.drop, killOb, part, splice, depth, resultsV, ↓reduceIte, Nat.reduceBEq, Nat.reduceAdd, Nat.reduceSub, Nat.reduceMul, Nat.reduceEqDiff, Nat.reduceLeDiff, Nat.reduceLT, effOf, effMem, effVar, effLit, effMake, effApp, lend, evLit, evNil, freeze, evField, evIndexT, orNil, evSlice, placeOf, evMap, mapOf, keyOk, evFrame, closed, fixed, sameEs, wit, Option.isSome_some, St.with, wantedD, Array.size, te, einl, inls, efr]
      refine ⟨(), fun s hs => ?_⟩
      rcases List.mem_append.1 hs with hs | hs
      · exact hR s hs
      · rw [List.mem_singleton.1 hs]; exact hx
  cases hr : inB rep 1 144 with
  | false =>
    rw [hr] at k3
    have e1 := eB (fun h => by have := (iff.1 h).1; rw [hr] at this; cases this)
    simp (maxSteps := 1000000) (implicitDefEqProofs := false) only [Int.lt_irrefl, k3, e1, List.length_map, Try.ntmps50, Try.results50, efc50, fc50, ss, sd, evOp, evPlain, evVal, evMem, St.get, sliceOf, arrayOf, fieldsOf, normOf, norm, look, evVar, evFieldAddr, nameOf, St.alloc, St.drop, killOb, part, splice, depth, resultsV, ↓reduceIte, Nat.reduceBEq, Nat.reduceAdd, Nat.reduceSub, Nat.reduceMul, Nat.reduceEqDiff, Nat.reduceLeDiff, Nat.reduceLT, effOf, effMem, effVar, effLit, effMake, effApp, lend, evLit, evNil, freeze, evField, evIndexT, orNil, evSlice, placeOf, evMap, mapOf, keyOk, evFrame, closed, fixed, sameEs, wit, Option.isSome_some, St.with, wantedD, Array.size, te, einl, inls, efr]
  | true =>
    rw [hr] at k3
    have e1 := eO (iff.2 ⟨hr, hS, hR⟩)
    simp (maxSteps := 1000000) (implicitDefEqProofs := false) only [Int.lt_irrefl, k3, e1, List.length_map, Try.ntmps50, Try.results50, efc50, fc50, ss, sd, evOp, evPlain, evVal, evMem, St.get, sliceOf, arrayOf, fieldsOf, normOf, norm, look, evVar, evFieldAddr, nameOf, St.alloc, St.drop, killOb, part, splice, depth, resultsV, ↓reduceIte, Nat.reduceBEq, Nat.reduceAdd, Nat.reduceSub, Nat.reduceMul, Nat.reduceEqDiff, Nat.reduceLeDiff, Nat.reduceLT, effOf, effMem, effVar, effLit, effMake, effApp, lend, evLit, evNil, freeze, evField, evIndexT, orNil, evSlice, placeOf, evMap, mapOf, keyOk, evFrame, closed, fixed, sameEs, wit, Option.isSome_some, St.with, wantedD, Array.size, te, einl, inls, efr]

theorem okT51 : okCode (Try.f51.body.getD .skip) = true := by decide +kernel
set_option maxRecDepth 20000 in
set_option maxHeartbeats 8000000 in
theorem c51 (j : Job) : (orcω E X0).call 51 [encJob j] = some (.int .i64 (jobE j)) := by
  refine call_of rfl fn51 rfl ?_
  have hok := okT51
  simp only [Try.f51, Option.getD_some, okCode, Bool.and_eq_true, Bool.and_true, Bool.true_and] at hok
  have kS := c67
  have kR := fun r => c66 r j.rep
  have k3 := c65 j.rep 1 144
  have eL := jobE_large (j := j)
  have eB := jobE_bad (j := j)
  have eO := jobE_ok (j := j)
  have iff := jobOk_iff (j := j)
  rw [← inB_iff] at iff
  generalize jobE j = res at *
  generalize jobOk j = ok at *
  obtain ⟨sl, rl, rep⟩ := j
  unfold encJob
  dsimp only at *
  by_cases p1 : (6 : Int) < sl.length
  · have e1 := eL (by omega)
    simp (maxSteps := 1000000) (implicitDefEqProofs := false) only [Try.ntmps51, Try.results51, efc51, fc51, p1, e1, List.length_map, ss, sd, evOp, evPlain, evVal, evMem, St.get, sliceOf, arrayOf, fieldsOf, normOf, norm, look, evVar, evFieldAddr, nameOf, St.alloc, St.drop, killOb, part, splice, depth, resultsV, ↓reduceIte, Nat.reduceBEq, Nat.reduceAdd, Nat.reduceSub, Nat.reduceMul, Nat.reduceEqDiff, Nat.reduceLeDiff, Nat.reduceLT, effOf, effMem, effVar, effLit, effMake, effApp, lend, evLit, evNil, freeze, evField, evIndexT, orNil, evSlice, placeOf, evMap, mapOf, keyOk, evFrame, closed, fixed, sameEs, wit, Option.isSome_some, St.with, wantedD, Array.size, te, einl, inls, efr]
  by_cases p2 : (5 : Int) < rl.length
  · have e1 := eL (by omega)
    simp (maxSteps := 1000000) (implicitDefEqProofs := false) only [Try.ntmps51, Try.results51, efc51, fc51, p1, p2, e1, List.length_map, ss, sd, evOp, evPlain, evVal, evMem, St.get, sliceOf, arrayOf, fieldsOf, normOf, norm, look, evVar, evFieldAddr, nameOf, St.alloc, St.drop, killOb, part, splice, depth, resultsV, ↓reduceIte, Nat.reduceBEq, Nat.reduceAdd, Nat.reduceSub, Nat.reduceMul, Nat.reduceEqDiff, Nat.reduceLeDiff, Nat.reduceLT, effOf, effMem, effVar, effLit, effMake, effApp, lend, evLit, evNil, freeze, evField, evIndexT, orNil, evSlice, placeOf, evMap, mapOf, keyOk, evFrame, closed, fixed, sameEs, wit, Option.isSome_some, St.with, wantedD, Array.size, te, einl, inls, efr]
  have eB := eB (by omega)
  have eO := eO (by omega)
  cases hr : inB rep 1 144 with
  | false =>
    rw [hr] at k3
    have e1 := eB (fun h => by have := (iff.1 h).1; rw [hr] at this; cases this)
    simp (maxSteps := 1000000) (implicitDefEqProofs := false) only [Try.ntmps51, Try.results51, efc51, fc51, p1, p2, k3, e1, List.length_map, ss, sd, evOp, evPlain, evVal, evMem, St.get, sliceOf, arrayOf, fieldsOf, normOf, norm, look, evVar, evFieldAddr, nameOf, St.alloc, St.drop, killOb, part, splice, depth, resultsV, ↓reduceIte, Nat.reduceBEq, Nat.reduceAdd, Nat.reduceSub, Nat.reduceMul, Nat.reduceEqDiff, Nat.reduceLeDiff, Nat.reduceLT, effOf, effMem, effVar, effLit, effMake, effApp, lend, evLit, evNil, freeze, evField, evIndexT, orNil, evSlice, placeOf, evMap, mapOf, keyOk, evFrame, closed, fixed, sameEs, wit, Option.isSome_some, St.with, wantedD, Array.size, te, einl, inls, efr]
  | true =>
  rw [hr] at k3
  simp (maxSteps := 1000000) (implicitDefEqProofs := false) only [Try.ntmps51, Try.results51, efc51, fc51, p1, p2, k3, Bool.not_true, List.length_map, ss, sd, evOp, evPlain, evVal, evMem, St.get, sliceOf, arrayOf, fieldsOf, normOf, norm, look, evVar, evFieldAddr, nameOf, St.alloc, St.drop, killOb, part, splice, depth, resultsV, ↓reduceIte, Nat.reduceBEq, Nat.reduceAdd, Nat.reduceSub, Nat.reduceMul, Nat.reduceEqDiff, Nat.reduceLeDiff, Nat.reduceLT, effOf, effMem, effVar, effLit, effMake, effApp, lend, evLit, evNil, freeze, evField, evIndexT, orNil, evSlice, placeOf, evMap, mapOf, keyOk, evFrame, closed, fixed, sameEs, wit, Option.isSome_some, St.with, wantedD, Array.size, te, einl, inls, efr]
  generalize hr : loopAt _ _ _ _ _ _ = r; revert r
  refine loop_list sl (fun pre _ => [(3, .int .i64 pre.length)]) (fun _ _ => []) (fun pre (_ : Unit) => ∀ s ∈ pre, stripOk s = true) () (by omega) (by simp (maxSteps := 1000000) (implicitDefEqProofs := false) only [ss, sd, evOp, evPlain, evVal, evMem, St.get, sliceOf, arrayOf, fieldsOf, normOf, norm, look, evVar, evFieldAddr, nameOf, St.alloc, St.drop, killOb, part, splice, depth, resultsV, ↓reduceIte, Nat.reduceBEq, Nat.reduceAdd, Nat.reduceSub, Nat.reduceMul, Nat.reduceEqDiff, Nat.reduceLeDiff, Nat.reduceLT, effOf, effMem, effVar, effLit, effMake, effApp, lend, evLit, evNil, freeze, evField, evIndexT, orNil, evSlice, placeOf, evMap, mapOf, keyOk, evFrame, closed, fixed, sameEs, wit, Option.isSome_some, St.with, wantedD, Array.size, te, einl, inls, efr]) (fun _ h => by cases h) (fun _ hS => ?_) (fun pre x post _ hp hS g1 g2 g3 g4 => ?_)
  rotate_left
  · have kx := kS x
    cases hx : stripOk x with
    | false =>
      rw [hx] at kx
      have e1 := eB (fun h => by have := (iff.1 h).2.1 x (by rw [hp]; simp); rw [hx] at this; cases this)
      obtain ⟨sx, sa, sb⟩ := x
      unfold encStrip at kx
      simp (maxSteps := 1000000) (implicitDefEqProofs := false) only [g1, g2, g3, g4, kx, e1, encStrip, Int.natCast_nonneg, Int.toNat_natCast, List.getElem?_map, List.length_map, Try.ntmps51, Try.results51, efc51, fc51, ss, sd, evOp, evPlain, evVal, evMem, St.get, sliceOf, arrayOf, fieldsOf, normOf, norm, look, evVar, evFieldAddr, nameOf, St.alloc, St.drop, killOb, part, splice, depth, resultsV, ↓reduceIte, Nat.reduceBEq, Nat.reduceAdd, Nat.reduceSub, Nat.reduceMul, Nat.reduceEqDiff, Nat.reduceLeDiff, Nat.reduceLT, effOf, effMem, effVar, effLit, effMake, effApp, lend, evLit, evNil, freeze, evField, evIndexT, orNil, evSlice, placeOf, evMap, mapOf, keyOk, evFrame, closed, fixed, sameEs, wit, Option.isSome_some, St.with, wantedD, Array.size, te, einl, inls, efr]
    | true =>
      rw [hx] at kx
      obtain ⟨sx, sa, sb⟩ := x
      unfold encStrip at kx
      simp (maxSteps := 1000000) (implicitDefEqProofs := false) only [g1, g2, g3, g4, kx, encStrip, Int.natCast_nonneg, Int.toNat_natCast, List.getElem?_map, List.length_map, ss, sd, evOp, evPlain, evVal, evMem, St.get, sliceOf, arrayOf, fieldsOf, normOf, norm, look, evVar, evFieldAddr, nameOf, St.alloc, St.drop, killOb, part, splice, depth, resultsV, ↓reduceIte, Nat.reduceBEq, Nat.reduceAdd, Nat.reduceSub, Nat.reduceMul, Nat.reduceEqDiff, Nat.reduceLeDiff, Nat.reduceLT, effOf, effMem, effVar, effLit, effMake, effApp, lend, evLit, evNil, freeze, evField, evIndexT, orNil, evSlice, placeOf, evMap, mapOf, keyOk, evFrame, closed, fixed, sameEs, wit, Option.isSome_some, St.with, wantedD, Array.size, te, einl, inls, efr]
      refine ⟨(), fun s hs => ?_⟩
      rcases List.mem_append.1 hs with hs | hs
      · exact hS s hs
      · rw [List.mem_singleton.1 hs]; exact hx
  simp (maxSteps := 1000000) (implicitDefEqProofs := false) only [Int.lt_irrefl, List.length_map, ss, sd, evOp, evPlain, evVal, evMem, St.get, sliceOf, arrayOf, fieldsOf, normOf, norm, look, evVar, evFieldAddr, nameOf, St.alloc, St.drop, killOb, part, splice, depth, resultsV, ↓reduceIte, Nat.reduceBEq, Nat.reduceAdd, Nat.reduceSub, Nat.reduceMul, Nat.reduceEqDiff, Nat.reduceLeDiff, Nat.reduceLT, effOf, effMem, effVar, effLit, effMake, effApp, lend, evLit, evNil, freeze, evField, evIndexT, orNil, evSlice, placeOf, evMap, mapOf, keyOk, evFrame, closed, fixed, sameEs, wit, Option.isSome_some, St.with, wantedD, Array.size, te, einl, inls, efr]
  generalize hr : loopAt _ _ _ _ _ _ = r; revert r
  refine loop_list rl (fun pre _ => [(4, .int .i64 pre.length)]) (fun _ _ => []) (fun pre (_ : Unit) => ∀ r ∈ pre, rollOk r rep = true) () (by omega) (by simp (maxSteps := 1000000) (implicitDefEqProofs := false) only [ss, sd, evOp, evPlain, evVal, evMem, St.get, sliceOf, arrayOf, fieldsOf, normOf, norm, look, evVar, evFieldAddr, nameOf, St.alloc, St.drop, killOb, part, splice, depth, resultsV, ↓reduceIte, Nat.reduceBEq, Nat.reduceAdd, Nat.reduceSub, Nat.reduceMul, Nat.reduceEqDiff, Nat.reduceLeDiff, Nat.reduceLT, effOf, effMem, effVar, effLit, effMake, effApp, lend, evLit, evNil, freeze, evField, evIndexT, orNil, evSlice, placeOf, evMap, mapOf, keyOk, evFrame, closed, fixed, sameEs, wit, Option.isSome_some, St.with, wantedD, Array.size, te, einl, inls, efr]) (fun _ h => by cases h) (fun _ hR => ?_) (fun pre x post _ hp hR g1 g2 g3 g4 => ?_)
  rotate_left
  · have kx := kR x hr
    cases hx : rollOk x rep with
    | false =>
      rw [hx] at kx
      have e1 := eB (fun h => by have := (iff.1 h).2.2 x (by rw [hp]; simp); rw [hx] at this; cases this)
      obtain ⟨sx, sa, sb⟩ := x
      unfold encRoll at kx
      simp (maxSteps := 1000000) (implicitDefEqProofs := false) only [g1, g2, g3, g4, kx, e1, encRoll, evRegion_st hok, Int.natCast_nonneg, Int.toNat_natCast, List.getElem?_map, List.length_map, Try.ntmps51, Try.results51, efc51, fc51, ss, sd, evOp, evPlain, evVal, evMem, St.get, sliceOf, arrayOf, fieldsOf, normOf, norm, look, evVar, evFieldAddr, nameOf, St.alloc, St.drop, killOb, part, splice, depth, resultsV, ↓reduceIte, Nat.reduceBEq, Nat.reduceAdd, Nat.reduceSub, Nat.reduceMul, Nat.reduceEqDiff, Nat.reduceLeDiff, Nat.reduceLT, effOf, effMem, effVar, effLit, effMake, effApp, lend, evLit, evNil, freeze, evField, evIndexT, orNil, evSlice, placeOf, evMap, mapOf, keyOk, evFrame, closed, fixed, sameEs, wit, Option.isSome_some, St.with, wantedD, Array.size, te, einl, inls, efr]
    | true =>
      rw [hx] at kx
      obtain ⟨sx, sa, sb⟩ := x
      unfold encRoll at kx
      simp (maxSteps := 1000000) (implicitDefEqProofs := false) only [g1, g2, g3, g4, kx, encRoll, evRegion_st hok, Int.natCast_nonneg, Int.toNat_natCast, List.getElem?_map, List.length_map, ss, sd, evOp, evPlain, evVal, evMem, St.get, sliceOf, arrayOf, fieldsOf, normOf, norm, look, evVar, evFieldAddr, nameOf, St.alloc, St.drop, killOb, part, splice, depth, resultsV, ↓reduceIte, Nat.reduceBEq, Nat.reduceAdd, Nat.reduceSub, Nat.reduceMul, Nat.reduceEqDiff, Nat.reduceLeDiff, Nat.reduceLT, effOf, effMem, effVar, effLit, effMake, effApp, lend, evLit, evNil, freeze, evField, evIndexT, orNil, evSlice, placeOf, evMap, mapOf, keyOk, evFrame, closed, fixed, sameEs, wit, Option.isSome_some, St.with, wantedD, Array.size, te, einl, inls, efr]
      refine ⟨(), fun s hs => ?_⟩
      rcases List.mem_append.1 hs with hs | hs
      · exact hR s hs
      · rw [List.mem_singleton.1 hs]; exact hx
  have e1 := eO (iff.2 ⟨hr, hS, hR⟩)
  simp (maxSteps := 1000000) (implicitDefEqProofs := false) only [Int.lt_irrefl, e1, List.length_map, Try.ntmps51, Try.results51, efc51, fc51, ss, sd, evOp, evPlain, evVal, evMem, St.get, sliceOf, arrayOf, fieldsOf, normOf, norm, look, evVar, evFieldAddr, nameOf, St.alloc, St.drop, killOb, part, splice, depth, resultsV, ↓reduceIte, Nat.reduceBEq, Nat.reduceAdd, Nat.reduceSub, Nat.reduceMul, Nat.reduceEqDiff, Nat.reduceLeDiff, Nat.reduceLT, effOf, effMem, effVar, effLit, effMake, effApp, lend, evLit, evNil, freeze, evField, evIndexT, orNil, evSlice, placeOf, evMap, mapOf, keyOk, evFrame, closed, fixed, sameEs, wit, Option.isSome_some, St.with, wantedD, Array.size, te, einl, inls, efr]

theorem c106 (s : Strip) (h : 0 ≤ s.a ∧ s.a < s.b ∧ s.b ≤ 60) : (orcω E X0).call 106 [encStrip s] = some (.int .i64 (sizeM s)) := by
  refine call_of rfl fn106 rfl ?_
  obtain ⟨x, a, b⟩ := s
  unfold encStrip sizeM
  dsimp only at *
  have w1 : IntKind.i64.wrap (b - a) = b - a := wrap_in (by omega)
  simp (maxSteps := 1000000) (implicitDefEqProofs := false) only [Try.ntmps106, Try.results106, efc106, w1, ss, sd, evOp, evPlain, evVal, evMem, St.get, sliceOf, arrayOf, fieldsOf, normOf, norm, look, evVar, evFieldAddr, nameOf, St.alloc, St.drop, killOb, part, splice, depth, resultsV, ↓reduceIte, Nat.reduceBEq, Nat.reduceAdd, Nat.reduceSub, Nat.reduceMul, Nat.reduceEqDiff, Nat.reduceLeDiff, Nat.reduceLT, effOf, effMem, effVar, effLit, effMake, effApp, lend, evLit, evNil, freeze, evField, evIndexT, orNil, evSlice, placeOf, evMap, mapOf, keyOk, evFrame, closed, fixed, sameEs, wit, Option.isSome_some, St.with, wantedD, Array.size, te, einl, inls, efr]
theorem c107 (s : Strip) (h : 0 ≤ s.a ∧ s.a < s.b ∧ s.b ≤ 60) : (orcω E X0).call 107 [encStrip s] = some (.int .i64 (sizeM s)) := by
  refine call_of rfl fn107 rfl ?_
  obtain ⟨x, a, b⟩ := s
  unfold encStrip sizeM
  dsimp only at *
  have w1 : IntKind.i64.wrap (b - a) = b - a := wrap_in (by omega)
  simp (maxSteps := 1000000) (implicitDefEqProofs := false) only [Try.ntmps107, Try.results107, efc107, w1, ss, sd, evOp, evPlain, evVal, evMem, St.get, sliceOf, arrayOf, fieldsOf, normOf, norm, look, evVar, evFieldAddr, nameOf, St.alloc, St.drop, killOb, part, splice, depth, resultsV, ↓reduceIte, Nat.reduceBEq, Nat.reduceAdd, Nat.reduceSub, Nat.reduceMul, Nat.reduceEqDiff, Nat.reduceLeDiff, Nat.reduceLT, effOf, effMem, effVar, effLit, effMake, effApp, lend, evLit, evNil, freeze, evField, evIndexT, orNil, evSlice, placeOf, evMap, mapOf, keyOk, evFrame, closed, fixed, sameEs, wit, Option.isSome_some, St.with, wantedD, Array.size, te, einl, inls, efr]
theorem c117 (r : Roll) (rep t : Int) (s : Strip) (h1 : 1 ≤ rep ∧ rep ≤ 144) (h2 : 0 ≤ r.ph ∧ r.ph ≤ rep - 1) (h3 : 0 ≤ t ∧ t ≤ 300) (h4 : 0 ≤ s.a ∧ s.a ≤ 60) :
    (orcω E X0).call 117 [encRoll r, .int .i64 rep, .int .i64 t, encStrip s] = some (.bool (decide ((r.ph + t) % rep = s.a % rep))) := by
  refine call_of rfl fn117 rfl ?_
  have hp := phase_iff (ph := r.ph) (a := t) (f := s.a) h1.1
  have hb := Int.tmod_lt_of_pos (r.ph + t - s.a) (show 0 < rep by omega)
  have hb2 := Int.lt_tmod_of_pos (r.ph + t - s.a) (show 0 < rep by omega)
  obtain ⟨l, ph, sh⟩ := r
  obtain ⟨x, a, b⟩ := s
  unfold encRoll encStrip
  dsimp only at *
  have w1 : IntKind.i64.wrap (ph + t) = ph + t := wrap_in (by omega)
  have w2 : IntKind.i64.wrap (ph + t - a) = ph + t - a := wrap_in (by omega)
  have q0 : ¬ rep = 0 := by omega
  by_cases hm : (ph + t) % rep = a % rep
  · have e1 := hp.2 hm
    have q1 : ((ph + t - a).tmod rep == 0) = true := by rw [e1]; rfl
    simp (maxSteps := 1000000) (implicitDefEqProofs := false) only [Try.ntmps117, Try.results117, efc117, w1, w2, q0, q1, hm, decide_true, ne_eq, not_false_eq_true, ss, sd, evOp, evPlain, evVal, evMem, St.get, sliceOf, arrayOf, fieldsOf, normOf, norm, look, evVar, evFieldAddr, nameOf, St.alloc, St.drop, killOb, part, splice, depth, resultsV, ↓reduceIte, Nat.reduceBEq, Nat.reduceAdd, Nat.reduceSub, Nat.reduceMul, Nat.reduceEqDiff, Nat.reduceLeDiff, Nat.reduceLT, effOf, effMem, effVar, effLit, effMake, effApp, lend, evLit, evNil, freeze, evField, evIndexT, orNil, evSlice, placeOf, evMap, mapOf, keyOk, evFrame, closed, fixed, sameEs, wit, Option.isSome_some, St.with, wantedD, Array.size, te, einl, inls, efr]
  · have q1 : ((ph + t - a).tmod rep == 0) = false := by
      rw [beq_eq_false_iff_ne]; exact fun h => hm (hp.1 h)
    simp (maxSteps := 1000000) (implicitDefEqProofs := false) only [Try.ntmps117, Try.results117, efc117, w1, w2, q0, q1, hm, decide_false, ne_eq, not_false_eq_true, ss, sd, evOp, evPlain, evVal, evMem, St.get, sliceOf, arrayOf, fieldsOf, normOf, norm, look, evVar, evFieldAddr, nameOf, St.alloc, St.drop, killOb, part, splice, depth, resultsV, ↓reduceIte, Nat.reduceBEq, Nat.reduceAdd, Nat.reduceSub, Nat.reduceMul, Nat.reduceEqDiff, Nat.reduceLeDiff, Nat.reduceLT, effOf, effMem, effVar, effLit, effMake, effApp, lend, evLit, evNil, freeze, evField, evIndexT, orNil, evSlice, placeOf, evMap, mapOf, keyOk, evFrame, closed, fixed, sameEs, wit, Option.isSome_some, St.with, wantedD, Array.size, te, einl, inls, efr]

theorem c139 (bs : List Bool) (h : bs.length ≤ 1000000000) : ∃ k : Int, (orcω E X0).call 139 [.sl false (bs.map .bool), .bool false] = some (.int .i64 k) ∧ (0 ≤ k ↔ false ∈ bs) := by
  refine ⟨if false ∈ bs then (bs.idxOf false : Nat) else -1, ?_, ?_⟩
  rotate_left
  · split
    · rename_i h1
      simp [h1]
    · rename_i h1
      simp [h1]
  refine call_of rfl fn139 rfl ?_
  simp (maxSteps := 1000000) (implicitDefEqProofs := false) only [Try.ntmps139, Try.results139, efc139, fc139, List.length_map, ss, sd, evOp, evPlain, evVal, evMem, St.get, sliceOf, arrayOf, fieldsOf, normOf, norm, look, evVar, evFieldAddr, nameOf, St.alloc, St.drop, killOb, part, splice, depth, resultsV, ↓reduceIte, Nat.reduceBEq, Nat.reduceAdd, Nat.reduceSub, Nat.reduceMul, Nat.reduceEqDiff, Nat.reduceLeDiff, Nat.reduceLT, effOf, effMem, effVar, effLit, effMake, effApp, lend, evLit, evNil, freeze, evField, evIndexT, orNil, evSlice, placeOf, evMap, mapOf, keyOk, evFrame, closed, fixed, sameEs, wit, Option.isSome_some, St.with, wantedD, Array.size, te, einl, inls, efr]
  generalize hr : loopAt _ _ _ _ _ _ = r; revert r
  refine loop_list bs (fun pre _ => [(8, .int .i64 pre.length)]) (fun _ _ => []) (fun pre (_ : Unit) => ¬ false ∈ pre) () (by omega) (by simp (maxSteps := 1000000) (implicitDefEqProofs := false) only [ss, sd, evOp, evPlain, evVal, evMem, St.get, sliceOf, arrayOf, fieldsOf, normOf, norm, look, evVar, evFieldAddr, nameOf, St.alloc, St.drop, killOb, part, splice, depth, resultsV, ↓reduceIte, Nat.reduceBEq, Nat.reduceAdd, Nat.reduceSub, Nat.reduceMul, Nat.reduceEqDiff, Nat.reduceLeDiff, Nat.reduceLT, effOf, effMem, effVar, effLit, effMake, effApp, lend, evLit, evNil, freeze, evField, evIndexT, orNil, evSlice, placeOf, evMap, mapOf, keyOk, evFrame, closed, fixed, sameEs, wit, Option.isSome_some, St.with, wantedD, Array.size, te, einl, inls, efr]) (fun h => by cases h) (fun _ hS => ?_) (fun pre x post _ hp hS g1 g2 g3 g4 => ?_)
  · simp (maxSteps := 1000000) (implicitDefEqProofs := false) only [Int.lt_irrefl, hS, if_false, List.length_map, Try.ntmps139, Try.results139, efc139, fc139, ss, sd, evOp, evPlain, evVal, evMem, St.get, sliceOf, arrayOf, fieldsOf, normOf, norm, look, evVar, evFieldAddr, nameOf, St.alloc, St.drop, killOb, part, splice, depth, resultsV, ↓reduceIte, Nat.reduceBEq, Nat.reduceAdd, Nat.reduceSub, Nat.reduceMul, Nat.reduceEqDiff, Nat.reduceLeDiff, Nat.reduceLT, effOf, effMem, effVar, effLit, effMake, effApp, lend, evLit, evNil, freeze, evField, evIndexT, orNil, evSlice, placeOf, evMap, mapOf, keyOk, evFrame, closed, fixed, sameEs, wit, Option.isSome_some, St.with, wantedD, Array.size, te, einl, inls, efr]
  · cases x with
    | false =>
      have e1 : false ∈ bs := by rw [hp]; simp
      have e2 : bs.idxOf false = pre.length := by
        rw [hp, List.idxOf_append, if_neg hS]
        simp
      simp (maxSteps := 1000000) (implicitDefEqProofs := false) only [g1, g2, g3, g4, e1, e2, if_true, beq_self_eq_true, Int.natCast_nonneg, Int.toNat_natCast, List.getElem?_map, List.length_map, Try.ntmps139, Try.results139, efc139, fc139, ss, sd, evOp, evPlain, evVal, evMem, St.get, sliceOf, arrayOf, fieldsOf, normOf, norm, look, evVar, evFieldAddr, nameOf, St.alloc, St.drop, killOb, part, splice, depth, resultsV, ↓reduceIte, Nat.reduceBEq, Nat.reduceAdd, Nat.reduceSub, Nat.reduceMul, Nat.reduceEqDiff, Nat.reduceLeDiff, Nat.reduceLT, effOf, effMem, effVar, effLit, effMake, effApp, lend, evLit, evNil, freeze, evField, evIndexT, orNil, evSlice, placeOf, evMap, mapOf, keyOk, evFrame, closed, fixed, sameEs, wit, Option.isSome_some, St.with, wantedD, Array.size, te, einl, inls, efr]
    | true =>
      have q1 : (false == true) = false := rfl
      simp (maxSteps := 1000000) (implicitDefEqProofs := false) only [g1, g2, g3, g4, q1, Int.natCast_nonneg, Int.toNat_natCast, List.getElem?_map, List.length_map, ss, sd, evOp, evPlain, evVal, evMem, St.get, sliceOf, arrayOf, fieldsOf, normOf, norm, look, evVar, evFieldAddr, nameOf, St.alloc, St.drop, killOb, part, splice, depth, resultsV, ↓reduceIte, Nat.reduceBEq, Nat.reduceAdd, Nat.reduceSub, Nat.reduceMul, Nat.reduceEqDiff, Nat.reduceLeDiff, Nat.reduceLT, effOf, effMem, effVar, effLit, effMake, effApp, lend, evLit, evNil, freeze, evField, evIndexT, orNil, evSlice, placeOf, evMap, mapOf, keyOk, evFrame, closed, fixed, sameEs, wit, Option.isSome_some, St.with, wantedD, Array.size, te, einl, inls, efr]
      refine ⟨(), fun h => ?_⟩
      rcases List.mem_append.1 h with h | h
      · exact hS h
      · simp at h
theorem c118 (bs : List Bool) (h : bs.length ≤ 1000000000) : (orcω E X0).call 118 [.sl false (bs.map .bool), .bool false] = some (.bool (decide (false ∈ bs))) := by
  refine call_of rfl fn118 rfl ?_
  obtain ⟨k, k1, k2⟩ := c139 bs h
  by_cases hk : 0 ≤ k
  · have e1 := k2.1 hk
    simp (maxSteps := 1000000) (implicitDefEqProofs := false) only [Try.ntmps118, Try.results118, efc118, k1, hk, e1, decide_true, ss, sd, evOp, evPlain, evVal, evMem, St.get, sliceOf, arrayOf, fieldsOf, normOf, norm, look, evVar, evFieldAddr, nameOf, St.alloc, St.drop, killOb, part, splice, depth, resultsV, ↓reduceIte, Nat.reduceBEq, Nat.reduceAdd, Nat.reduceSub, Nat.reduceMul, Nat.reduceEqDiff, Nat.reduceLeDiff, Nat.reduceLT, effOf, effMem, effVar, effLit, effMake, effApp, lend, evLit, evNil, freeze, evField, evIndexT, orNil, evSlice, placeOf, evMap, mapOf, keyOk, evFrame, closed, fixed, sameEs, wit, Option.isSome_some, St.with, wantedD, Array.size, te, einl, inls, efr]
  · have e1 : ¬ false ∈ bs := fun h => hk (k2.2 h)
    simp (maxSteps := 1000000) (implicitDefEqProofs := false) only [Try.ntmps118, Try.results118, efc118, k1, hk, e1, decide_false, ss, sd, evOp, evPlain, evVal, evMem, St.get, sliceOf, arrayOf, fieldsOf, normOf, norm, look, evVar, evFieldAddr, nameOf, St.alloc, St.drop, killOb, part, splice, depth, resultsV, ↓reduceIte, Nat.reduceBEq, Nat.reduceAdd, Nat.reduceSub, Nat.reduceMul, Nat.reduceEqDiff, Nat.reduceLeDiff, Nat.reduceLT, effOf, effMem, effVar, effLit, effMake, effApp, lend, evLit, evNil, freeze, evField, evIndexT, orNil, evSlice, placeOf, evMap, mapOf, keyOk, evFrame, closed, fixed, sameEs, wit, Option.isSome_some, St.with, wantedD, Array.size, te, einl, inls, efr]
end Go.AM.D
