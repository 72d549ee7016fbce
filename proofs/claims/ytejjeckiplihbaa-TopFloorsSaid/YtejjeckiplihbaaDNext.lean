/-
The next place at which a strip can begin (floor and the document).
-/
import Derived.Test.YtejjeckiplihbaaDBase
import Derived.Test.YtejjeckiplihbaaDNextP
set_option linter.unusedSimpArgs false
set_option maxRecDepth 20000

namespace Go.AM.D
open Go Go.AM Go.Proofs

set_option maxHeartbeats 4000000 in
theorem c61 (r : Roll) (rep : Int) : (orcω E X0).call 61 [encRoll r, .int .i64 rep] = some (.bool (rollOk r rep)) := by
  refine call_of rfl fn61 rfl ?_
  have k1 := fun x lo hi => c63 x lo hi
  obtain ⟨l, ph, sh⟩ := r
  unfold encRoll rollOk
  dsimp only
  cases h1 : inB rep 1 144 with
  | false => simp (maxSteps := 1000000) (implicitDefEqProofs := false) only [Try.ntmps61, Try.results61, efc61, k1, h1, Bool.false_and, ss, sd, evOp, evPlain, evVal, evMem, St.get, sliceOf, arrayOf, fieldsOf, normOf, norm, look, evVar, evFieldAddr, nameOf, St.alloc, St.drop, killOb, part, splice, depth, resultsV, ↓reduceIte, Nat.reduceBEq, Nat.reduceAdd, Nat.reduceSub, Nat.reduceMul, Nat.reduceEqDiff, Nat.reduceLeDiff, Nat.reduceLT, effOf, effMem, effVar, effLit, effMake, effApp, lend, evLit, evNil, freeze, evField, evIndexT, orNil, evSlice, placeOf, evMap, mapOf, keyOk, evFrame, closed, fixed, sameEs, wit, Option.isSome_some, St.with, wantedD, Array.size, te, einl, inls, efr]
  | true =>
  have b1 := inB_iff.1 h1
  have w1 : IntKind.i64.wrap (rep - 1) = rep - 1 := wrap_in (by omega)
  cases h2 : inB l 1 300 with
  | false => simp (maxSteps := 1000000) (implicitDefEqProofs := false) only [Try.ntmps61, Try.results61, efc61, k1, h1, h2, Bool.true_and, Bool.false_and, ss, sd, evOp, evPlain, evVal, evMem, St.get, sliceOf, arrayOf, fieldsOf, normOf, norm, look, evVar, evFieldAddr, nameOf, St.alloc, St.drop, killOb, part, splice, depth, resultsV, ↓reduceIte, Nat.reduceBEq, Nat.reduceAdd, Nat.reduceSub, Nat.reduceMul, Nat.reduceEqDiff, Nat.reduceLeDiff, Nat.reduceLT, effOf, effMem, effVar, effLit, effMake, effApp, lend, evLit, evNil, freeze, evField, evIndexT, orNil, evSlice, placeOf, evMap, mapOf, keyOk, evFrame, closed, fixed, sameEs, wit, Option.isSome_some, St.with, wantedD, Array.size, te, einl, inls, efr]
  | true =>
  cases h3 : inB ph 0 (rep - 1) with
  | false => simp (maxSteps := 1000000) (implicitDefEqProofs := false) only [Try.ntmps61, Try.results61, efc61, k1, h1, h2, w1, h3, Bool.true_and, Bool.false_and, ss, sd, evOp, evPlain, evVal, evMem, St.get, sliceOf, arrayOf, fieldsOf, normOf, norm, look, evVar, evFieldAddr, nameOf, St.alloc, St.drop, killOb, part, splice, depth, resultsV, ↓reduceIte, Nat.reduceBEq, Nat.reduceAdd, Nat.reduceSub, Nat.reduceMul, Nat.reduceEqDiff, Nat.reduceLeDiff, Nat.reduceLT, effOf, effMem, effVar, effLit, effMake, effApp, lend, evLit, evNil, freeze, evField, evIndexT, orNil, evSlice, placeOf, evMap, mapOf, keyOk, evFrame, closed, fixed, sameEs, wit, Option.isSome_some, St.with, wantedD, Array.size, te, einl, inls, efr]
  | true => simp (maxSteps := 1000000) (implicitDefEqProofs := false) only [Try.ntmps61, Try.results61, efc61, k1, h1, h2, w1, h3, Bool.true_and, ss, sd, evOp, evPlain, evVal, evMem, St.get, sliceOf, arrayOf, fieldsOf, normOf, norm, look, evVar, evFieldAddr, nameOf, St.alloc, St.drop, killOb, part, splice, depth, resultsV, ↓reduceIte, Nat.reduceBEq, Nat.reduceAdd, Nat.reduceSub, Nat.reduceMul, Nat.reduceEqDiff, Nat.reduceLeDiff, Nat.reduceLT, effOf, effMem, effVar, effLit, effMake, effApp, lend, evLit, evNil, freeze, evField, evIndexT, orNil, evSlice, placeOf, evMap, mapOf, keyOk, evFrame, closed, fixed, sameEs, wit, Option.isSome_some, St.with, wantedD, Array.size, te, einl, inls, efr]

set_option maxHeartbeats 4000000 in
theorem c66 (r : Roll) (rep : Int) (h1 : inB rep 1 144 = true) : (orcω E X0).call 66 [encRoll r, .int .i64 rep] = some (.bool (rollOk r rep)) := by
  refine call_of rfl fn66 rfl ?_
  have k1 := fun x lo hi => c65 x lo hi
  have b1 := inB_iff.1 h1
  obtain ⟨l, ph, sh⟩ := r
  unfold encRoll rollOk
  dsimp only
  rw [h1]
  cases h2 : inB l 1 300 with
  | false => simp (maxSteps := 1000000) (implicitDefEqProofs := false) only [Try.ntmps66, Try.results66, efc66, k1, h2, Bool.true_and, Bool.false_and, ss, sd, evOp, evPlain, evVal, evMem, St.get, sliceOf, arrayOf, fieldsOf, normOf, norm, look, evVar, evFieldAddr, nameOf, St.alloc, St.drop, killOb, part, splice, depth, resultsV, ↓reduceIte, Nat.reduceBEq, Nat.reduceAdd, Nat.reduceSub, Nat.reduceMul, Nat.reduceEqDiff, Nat.reduceLeDiff, Nat.reduceLT, effOf, effMem, effVar, effLit, effMake, effApp, lend, evLit, evNil, freeze, evField, evIndexT, orNil, evSlice, placeOf, evMap, mapOf, keyOk, evFrame, closed, fixed, sameEs, wit, Option.isSome_some, St.with, wantedD, Array.size, te, einl, inls, efr]
  | true =>
  have e3 : inB ph 0 (rep - 1) = (decide (0 ≤ ph) && decide (ph < rep)) := by
    rw [Bool.eq_iff_iff, inB_iff]
    simp
    omega
  rw [e3]
  by_cases h3 : 0 ≤ ph
  · by_cases h4 : ph < rep
    · simp (maxSteps := 1000000) (implicitDefEqProofs := false) only [Try.ntmps66, Try.results66, efc66, k1, h2, h3, h4, Bool.true_and, ss, sd, evOp, evPlain, evVal, evMem, St.get, sliceOf, arrayOf, fieldsOf, normOf, norm, look, evVar, evFieldAddr, nameOf, St.alloc, St.drop, killOb, part, splice, depth, resultsV, ↓reduceIte, Nat.reduceBEq, Nat.reduceAdd, Nat.reduceSub, Nat.reduceMul, Nat.reduceEqDiff, Nat.reduceLeDiff, Nat.reduceLT, effOf, effMem, effVar, effLit, effMake, effApp, lend, evLit, evNil, freeze, evField, evIndexT, orNil, evSlice, placeOf, evMap, mapOf, keyOk, evFrame, closed, fixed, sameEs, wit, Option.isSome_some, St.with, wantedD, Array.size, te, einl, inls, efr]
    · simp (maxSteps := 1000000) (implicitDefEqProofs := false) only [Try.ntmps66, Try.results66, efc66, k1, h2, h3, h4, Bool.true_and, Bool.false_and, ss, sd, evOp, evPlain, evVal, evMem, St.get, sliceOf, arrayOf, fieldsOf, normOf, norm, look, evVar, evFieldAddr, nameOf, St.alloc, St.drop, killOb, part, splice, depth, resultsV, ↓reduceIte, Nat.reduceBEq, Nat.reduceAdd, Nat.reduceSub, Nat.reduceMul, Nat.reduceEqDiff, Nat.reduceLeDiff, Nat.reduceLT, effOf, effMem, effVar, effLit, effMake, effApp, lend, evLit, evNil, freeze, evField, evIndexT, orNil, evSlice, placeOf, evMap, mapOf, keyOk, evFrame, closed, fixed, sameEs, wit, Option.isSome_some, St.with, wantedD, Array.size, te, einl, inls, efr]
  · simp (maxSteps := 1000000) (implicitDefEqProofs := false) only [Try.ntmps66, Try.results66, efc66, k1, h2, h3, Bool.true_and, Bool.false_and, ss, sd, evOp, evPlain, evVal, evMem, St.get, sliceOf, arrayOf, fieldsOf, normOf, norm, look, evVar, evFieldAddr, nameOf, St.alloc, St.drop, killOb, part, splice, depth, resultsV, ↓reduceIte, Nat.reduceBEq, Nat.reduceAdd, Nat.reduceSub, Nat.reduceMul, Nat.reduceEqDiff, Nat.reduceLeDiff, Nat.reduceLT, effOf, effMem, effVar, effLit, effMake, effApp, lend, evLit, evNil, freeze, evField, evIndexT, orNil, evSlice, placeOf, evMap, mapOf, keyOk, evFrame, closed, fixed, sameEs, wit, Option.isSome_some, St.with, wantedD, Array.size, te, einl, inls, efr]

set_option maxHeartbeats 4000000 in
theorem c62 (s : Strip) : (orcω E X0).call 62 [encStrip s] = some (.bool (stripOk s)) := by
  refine call_of rfl fn62 rfl ?_
  have k1 := fun x lo hi => c63 x lo hi
  obtain ⟨x, a, b⟩ := s
  unfold encStrip stripOk
  dsimp only
  cases h1 : inB x (-20) 60 with
  | false => simp (maxSteps := 1000000) (implicitDefEqProofs := false) only [Try.ntmps62, Try.results62, efc62, k1, h1, Bool.false_and, ss, sd, evOp, evPlain, evVal, evMem, St.get, sliceOf, arrayOf, fieldsOf, normOf, norm, look, evVar, evFieldAddr, nameOf, St.alloc, St.drop, killOb, part, splice, depth, resultsV, ↓reduceIte, Nat.reduceBEq, Nat.reduceAdd, Nat.reduceSub, Nat.reduceMul, Nat.reduceEqDiff, Nat.reduceLeDiff, Nat.reduceLT, effOf, effMem, effVar, effLit, effMake, effApp, lend, evLit, evNil, freeze, evField, evIndexT, orNil, evSlice, placeOf, evMap, mapOf, keyOk, evFrame, closed, fixed, sameEs, wit, Option.isSome_some, St.with, wantedD, Array.size, te, einl, inls, efr]
  | true =>
  by_cases h2 : 0 ≤ a
  · by_cases h3 : a < b
    · simp (maxSteps := 1000000) (implicitDefEqProofs := false) only [Try.ntmps62, Try.results62, efc62, k1, h1, h2, h3, Bool.true_and, ss, sd, evOp, evPlain, evVal, evMem, St.get, sliceOf, arrayOf, fieldsOf, normOf, norm, look, evVar, evFieldAddr, nameOf, St.alloc, St.drop, killOb, part, splice, depth, resultsV, ↓reduceIte, Nat.reduceBEq, Nat.reduceAdd, Nat.reduceSub, Nat.reduceMul, Nat.reduceEqDiff, Nat.reduceLeDiff, Nat.reduceLT, effOf, effMem, effVar, effLit, effMake, effApp, lend, evLit, evNil, freeze, evField, evIndexT, orNil, evSlice, placeOf, evMap, mapOf, keyOk, evFrame, closed, fixed, sameEs, wit, Option.isSome_some, St.with, wantedD, Array.size, te, einl, inls, efr]
    · simp (maxSteps := 1000000) (implicitDefEqProofs := false) only [Try.ntmps62, Try.results62, efc62, k1, h1, h2, h3, Bool.true_and, Bool.false_and, ss, sd, evOp, evPlain, evVal, evMem, St.get, sliceOf, arrayOf, fieldsOf, normOf, norm, look, evVar, evFieldAddr, nameOf, St.alloc, St.drop, killOb, part, splice, depth, resultsV, ↓reduceIte, Nat.reduceBEq, Nat.reduceAdd, Nat.reduceSub, Nat.reduceMul, Nat.reduceEqDiff, Nat.reduceLeDiff, Nat.reduceLT, effOf, effMem, effVar, effLit, effMake, effApp, lend, evLit, evNil, freeze, evField, evIndexT, orNil, evSlice, placeOf, evMap, mapOf, keyOk, evFrame, closed, fixed, sameEs, wit, Option.isSome_some, St.with, wantedD, Array.size, te, einl, inls, efr]
  · simp (maxSteps := 1000000) (implicitDefEqProofs := false) only [Try.ntmps62, Try.results62, efc62, k1, h1, h2, Bool.true_and, Bool.false_and, ss, sd, evOp, evPlain, evVal, evMem, St.get, sliceOf, arrayOf, fieldsOf, normOf, norm, look, evVar, evFieldAddr, nameOf, St.alloc, St.drop, killOb, part, splice, depth, resultsV, ↓reduceIte, Nat.reduceBEq, Nat.reduceAdd, Nat.reduceSub, Nat.reduceMul, Nat.reduceEqDiff, Nat.reduceLeDiff, Nat.reduceLT, effOf, effMem, effVar, effLit, effMake, effApp, lend, evLit, evNil, freeze, evField, evIndexT, orNil, evSlice, placeOf, evMap, mapOf, keyOk, evFrame, closed, fixed, sameEs, wit, Option.isSome_some, St.with, wantedD, Array.size, te, einl, inls, efr]

set_option maxHeartbeats 4000000 in
theorem c67 (s : Strip) : (orcω E X0).call 67 [encStrip s] = some (.bool (stripOk s)) := by
  refine call_of rfl fn67 rfl ?_
  have k1 := fun x lo hi => c65 x lo hi
  obtain ⟨x, a, b⟩ := s
  unfold encStrip stripOk
  dsimp only
  cases h1 : inB x (-20) 60 with
  | false => simp (maxSteps := 1000000) (implicitDefEqProofs := false) only [Try.ntmps67, Try.results67, efc67, k1, h1, Bool.false_and, ss, sd, evOp, evPlain, evVal, evMem, St.get, sliceOf, arrayOf, fieldsOf, normOf, norm, look, evVar, evFieldAddr, nameOf, St.alloc, St.drop, killOb, part, splice, depth, resultsV, ↓reduceIte, Nat.reduceBEq, Nat.reduceAdd, Nat.reduceSub, Nat.reduceMul, Nat.reduceEqDiff, Nat.reduceLeDiff, Nat.reduceLT, effOf, effMem, effVar, effLit, effMake, effApp, lend, evLit, evNil, freeze, evField, evIndexT, orNil, evSlice, placeOf, evMap, mapOf, keyOk, evFrame, closed, fixed, sameEs, wit, Option.isSome_some, St.with, wantedD, Array.size, te, einl, inls, efr]
  | true =>
  by_cases h2 : 0 ≤ a
  · by_cases h3 : a < b
    · simp (maxSteps := 1000000) (implicitDefEqProofs := false) only [Try.ntmps67, Try.results67, efc67, k1, h1, h2, h3, Bool.true_and, ss, sd, evOp, evPlain, evVal, evMem, St.get, sliceOf, arrayOf, fieldsOf, normOf, norm, look, evVar, evFieldAddr, nameOf, St.alloc, St.drop, killOb, part, splice, depth, resultsV, ↓reduceIte, Nat.reduceBEq, Nat.reduceAdd, Nat.reduceSub, Nat.reduceMul, Nat.reduceEqDiff, Nat.reduceLeDiff, Nat.reduceLT, effOf, effMem, effVar, effLit, effMake, effApp, lend, evLit, evNil, freeze, evField, evIndexT, orNil, evSlice, placeOf, evMap, mapOf, keyOk, evFrame, closed, fixed, sameEs, wit, Option.isSome_some, St.with, wantedD, Array.size, te, einl, inls, efr]
    · simp (maxSteps := 1000000) (implicitDefEqProofs := false) only [Try.ntmps67, Try.results67, efc67, k1, h1, h2, h3, Bool.true_and, Bool.false_and, ss, sd, evOp, evPlain, evVal, evMem, St.get, sliceOf, arrayOf, fieldsOf, normOf, norm, look, evVar, evFieldAddr, nameOf, St.alloc, St.drop, killOb, part, splice, depth, resultsV, ↓reduceIte, Nat.reduceBEq, Nat.reduceAdd, Nat.reduceSub, Nat.reduceMul, Nat.reduceEqDiff, Nat.reduceLeDiff, Nat.reduceLT, effOf, effMem, effVar, effLit, effMake, effApp, lend, evLit, evNil, freeze, evField, evIndexT, orNil, evSlice, placeOf, evMap, mapOf, keyOk, evFrame, closed, fixed, sameEs, wit, Option.isSome_some, St.with, wantedD, Array.size, te, einl, inls, efr]
  · simp (maxSteps := 1000000) (implicitDefEqProofs := false) only [Try.ntmps67, Try.results67, efc67, k1, h1, h2, Bool.true_and, Bool.false_and, ss, sd, evOp, evPlain, evVal, evMem, St.get, sliceOf, arrayOf, fieldsOf, normOf, norm, look, evVar, evFieldAddr, nameOf, St.alloc, St.drop, killOb, part, splice, depth, resultsV, ↓reduceIte, Nat.reduceBEq, Nat.reduceAdd, Nat.reduceSub, Nat.reduceMul, Nat.reduceEqDiff, Nat.reduceLeDiff, Nat.reduceLT, effOf, effMem, effVar, effLit, effMake, effApp, lend, evLit, evNil, freeze, evField, evIndexT, orNil, evSlice, placeOf, evMap, mapOf, keyOk, evFrame, closed, fixed, sameEs, wit, Option.isSome_some, St.with, wantedD, Array.size, te, einl, inls, efr]

theorem c133 (r : Roll) (t : Int) (s : Strip) : (orcω E X0).call 133 [encRoll r, .int .i64 t, encStrip s] = some (.int .i64 t) := by
  refine call_of rfl fn133 rfl ?_
  obtain ⟨l, ph, sh⟩ := r
  obtain ⟨x, a, b⟩ := s
  unfold encRoll encStrip
  simp (maxSteps := 1000000) (implicitDefEqProofs := false) only [Try.ntmps133, Try.results133, efc133, ss, sd, evOp, evPlain, evVal, evMem, St.get, sliceOf, arrayOf, fieldsOf, normOf, norm, look, evVar, evFieldAddr, nameOf, St.alloc, St.drop, killOb, part, splice, depth, resultsV, ↓reduceIte, Nat.reduceBEq, Nat.reduceAdd, Nat.reduceSub, Nat.reduceMul, Nat.reduceEqDiff, Nat.reduceLeDiff, Nat.reduceLT, effOf, effMem, effVar, effLit, effMake, effApp, lend, evLit, evNil, freeze, evField, evIndexT, orNil, evSlice, placeOf, evMap, mapOf, keyOk, evFrame, closed, fixed, sameEs, wit, Option.isSome_some, St.with, wantedD, Array.size, te, einl, inls, efr]
set_option maxHeartbeats 4000000 in
theorem c134 (r : Roll) (t : Int) (s : Strip) (rep : Int) (hr : rollOk r rep = true) (hs : stripOk s = true) (ht : 0 ≤ t ∧ t ≤ 1000000) :
    (orcω E X0).call 134 [encRoll r, .int .i64 t, encStrip s, .fp false [.int .i64 rep] 0] = some (.int .i64 (nextM r.ph rep t s.a)) := by
  refine call_of rfl fn134 rfl ?_
  have b1 := rollOk_iff.1 hr
  have b2 := stripOk_iff.1 hs
  have e1 := next_code (phase := r.ph) (rep := rep) (at' := t) (a := s.a) (by omega)
  have e2 := next_in (phase := r.ph) (rep := rep) (at' := t) (a := s.a) (by omega)
  have h1 := Int.lt_tmod_of_pos (s.a - r.ph - t) (show 0 < rep by omega)
  have h2 := Int.tmod_lt_of_pos (s.a - r.ph - t) (show 0 < rep by omega)
  obtain ⟨l, ph, sh⟩ := r
  obtain ⟨x, a, b⟩ := s
  dsimp only at *
  have w1 : IntKind.i64.wrap (a - ph) = a - ph := wrap_in (by omega)
  have w2 : IntKind.i64.wrap (a - ph - t) = a - ph - t := wrap_in (by omega)
  have w3 : IntKind.i64.wrap ((a - ph - t).tmod rep + rep) = (a - ph - t).tmod rep + rep := wrap_in (by omega)
  have w4 : IntKind.i64.wrap (t + ((a - ph - t).tmod rep + rep).tmod rep) = nextM ph rep t a := by rw [e1, wrap_in (by omega)]
  have n0 : ¬ rep = 0 := by omega
  generalize nextM ph rep t a = res at *
  unfold encRoll encStrip
  simp (maxSteps := 1000000) (implicitDefEqProofs := false) only [Try.ntmps134, Try.results134, efc134, w1, w2, w3, w4, ne_eq, n0, not_false_eq_true, ss, sd, evOp, evPlain, evVal, evMem, St.get, sliceOf, arrayOf, fieldsOf, normOf, norm, look, evVar, evFieldAddr, nameOf, St.alloc, St.drop, killOb, part, splice, depth, resultsV, ↓reduceIte, Nat.reduceBEq, Nat.reduceAdd, Nat.reduceSub, Nat.reduceMul, Nat.reduceEqDiff, Nat.reduceLeDiff, Nat.reduceLT, effOf, effMem, effVar, effLit, effMake, effApp, lend, evLit, evNil, freeze, evField, evIndexT, orNil, evSlice, placeOf, evMap, mapOf, keyOk, evFrame, closed, fixed, sameEs, wit, Option.isSome_some, St.with, wantedD, Array.size, te, einl, inls, efr]

theorem c109 (rep : Int) : (orcω E X0).call 109 [.int .i64 rep] = some (.agg [.clo 133 [] [], .clo 134 [] [.fp true [.int .i64 rep] 0]]) := by
  refine call_of rfl fn109 rfl ?_
  simp (maxSteps := 1000000) (implicitDefEqProofs := false) only [Try.ntmps109, Try.results109, efc109, ss, sd, evOp, evPlain, evVal, evMem, St.get, sliceOf, arrayOf, fieldsOf, normOf, norm, look, evVar, evFieldAddr, nameOf, St.alloc, St.drop, killOb, part, splice, depth, resultsV, ↓reduceIte, Nat.reduceBEq, Nat.reduceAdd, Nat.reduceSub, Nat.reduceMul, Nat.reduceEqDiff, Nat.reduceLeDiff, Nat.reduceLT, effOf, effMem, effVar, effLit, effMake, effApp, lend, evLit, evNil, freeze, evField, evIndexT, orNil, evSlice, placeOf, evMap, mapOf, keyOk, evFrame, closed, fixed, sameEs, wit, Option.isSome_some, St.with, wantedD, Array.size, te, einl, inls, efr]
def kindV (rep : Int) : V := if rep = 1 then .agg [.clo 133 [] []] else .agg [.clo 134 [] [.fp true [.int .i64 rep] 0]]
theorem c64 (rep : Int) (h : inB rep 1 144 = true) : (orcω E X0).call 64 [.int .i64 rep] = some (kindV rep) := by
  refine call_of rfl fn64 rfl ?_
  have k1 := c109 rep
  have b1 := inB_iff.1 h
  have w1 : IntKind.i64.wrap (rep - 1) = rep - 1 := wrap_in (by omega)
  unfold kindV
  by_cases h1 : rep = 1
  · subst h1
    have e1 : min (1 - 1 : Int) 1 = 0 := by decide
    simp (maxSteps := 1000000) (implicitDefEqProofs := false) only [Try.ntmps64, Try.results64, efc64, k1, w1, e1, Int.cast_ofNat_Int, Int.reduceToNat, Int.reduceLT, Int.reduceLE, Nat.reduceMul, Nat.reduceAdd, Nat.reduceLeDiff, List.drop_zero, List.drop_succ_cons, List.take_succ_cons, List.take_zero, Int.le_refl, and_self, if_true, ss, sd, evOp, evPlain, evVal, evMem, St.get, sliceOf, arrayOf, fieldsOf, normOf, norm, look, evVar, evFieldAddr, nameOf, St.alloc, St.drop, killOb, part, splice, depth, resultsV, ↓reduceIte, Nat.reduceBEq, Nat.reduceAdd, Nat.reduceSub, Nat.reduceMul, Nat.reduceEqDiff, Nat.reduceLeDiff, Nat.reduceLT, effOf, effMem, effVar, effLit, effMake, effApp, lend, evLit, evNil, freeze, evField, evIndexT, orNil, evSlice, placeOf, evMap, mapOf, keyOk, evFrame, closed, fixed, sameEs, wit, Option.isSome_some, St.with, wantedD, Array.size, te, einl, inls, efr]
  · have e1 : min (rep - 1 : Int) 1 = 1 := by omega
    simp (maxSteps := 1000000) (implicitDefEqProofs := false) only [Try.ntmps64, Try.results64, efc64, k1, w1, e1, h1, if_false, Int.cast_ofNat_Int, Int.reduceToNat, Int.reduceLT, Int.reduceLE, Nat.reduceMul, Nat.reduceAdd, Nat.reduceLeDiff, List.drop_zero, List.drop_succ_cons, List.take_succ_cons, List.take_zero, Int.le_refl, and_self, if_true, ss, sd, evOp, evPlain, evVal, evMem, St.get, sliceOf, arrayOf, fieldsOf, normOf, norm, look, evVar, evFieldAddr, nameOf, St.alloc, St.drop, killOb, part, splice, depth, resultsV, ↓reduceIte, Nat.reduceBEq, Nat.reduceAdd, Nat.reduceSub, Nat.reduceMul, Nat.reduceEqDiff, Nat.reduceLeDiff, Nat.reduceLT, effOf, effMem, effVar, effLit, effMake, effApp, lend, evLit, evNil, freeze, evField, evIndexT, orNil, evSlice, placeOf, evMap, mapOf, keyOk, evFrame, closed, fixed, sameEs, wit, Option.isSome_some, St.with, wantedD, Array.size, te, einl, inls, efr]

theorem okT68 : okCode (Try.f68.body.getD .skip) = true := by decide +kernel
set_option maxRecDepth 20000 in
set_option maxHeartbeats 8000000 in
theorem c68 (r : Roll) (rep t : Int) (s : Strip) (hr : rollOk r rep = true) (hs : stripOk s = true) (ht : 0 ≤ t ∧ t ≤ 1000000) : (orcω E X0).call 68 [encRoll r, .int .i64 rep, .int .i64 t, encStrip s] = some (.int .i64 (nextM r.ph rep t s.a)) := by
  refine call_of rfl fn68 rfl ?_
  have hok := okT68
  simp only [Try.f68, Option.getD_some, okCode, Bool.and_eq_true, Bool.and_true, Bool.true_and] at hok
  have b1 := rollOk_iff.1 hr
  have b2 := stripOk_iff.1 hs
  have e0 := next_end (phase := r.ph) (rep := rep) (at' := t) (a := s.a) (by omega)
  have e1 := next_eq (phase := r.ph) (rep := rep) (at' := t) (a := s.a) (by omega)
  have e2 := next_in (phase := r.ph) (rep := rep) (at' := t) (a := s.a) (by omega)
  have e3 := fun i => next_miss (phase := r.ph) (rep := rep) (at' := t) (a := s.a) (i := i) (by omega)
  obtain ⟨l, ph, sh⟩ := r
  obtain ⟨x, a, b⟩ := s
  dsimp only at *
  have m1 := Int.emod_nonneg (a - ph - t) (show rep ≠ 0 by omega)
  have m2 := Int.emod_lt_of_pos (a - ph - t) (show 0 < rep by omega)
  generalize nextM ph rep t a = res at *
  have n0 : ¬ rep = 0 := by omega
  unfold encRoll encStrip
  simp (maxSteps := 1000000) (implicitDefEqProofs := false) only [Try.ntmps68, Try.results68, efc68, fc68, ss, sd, evOp, evPlain, evVal, evMem, St.get, sliceOf, arrayOf, fieldsOf, normOf, norm, look, evVar, evFieldAddr, nameOf, St.alloc, St.drop, killOb, part, splice, depth, resultsV, ↓reduceIte, Nat.reduceBEq, Nat.reduceAdd, Nat.reduceSub, Nat.reduceMul, Nat.reduceEqDiff, Nat.reduceLeDiff, Nat.reduceLT, effOf, effMem, effVar, effLit, effMake, effApp, lend, evLit, evNil, freeze, evField, evIndexT, orNil, evSlice, placeOf, evMap, mapOf, keyOk, evFrame, closed, fixed, sameEs, wit, Option.isSome_some, St.with, wantedD, Array.size, te, einl, inls, efr]
  generalize hr : loopAt _ _ _ _ _ _ = r; revert r
  generalize hd : ((a - ph - t) % rep).toNat = d at *
  refine loop_nat d (fun i _ => [(2, .int .i64 (t + (i : Nat)))]) (fun _ _ => []) (fun _ (_ : Unit) => True) () (by omega) (by simp (maxSteps := 1000000) (implicitDefEqProofs := false) only [Int.natCast_zero, Int.add_zero, ss, sd, evOp, evPlain, evVal, evMem, St.get, sliceOf, arrayOf, fieldsOf, normOf, norm, look, evVar, evFieldAddr, nameOf, St.alloc, St.drop, killOb, part, splice, depth, resultsV, ↓reduceIte, Nat.reduceBEq, Nat.reduceAdd, Nat.reduceSub, Nat.reduceMul, Nat.reduceEqDiff, Nat.reduceLeDiff, Nat.reduceLT, effOf, effMem, effVar, effLit, effMake, effApp, lend, evLit, evNil, freeze, evField, evIndexT, orNil, evSlice, placeOf, evMap, mapOf, keyOk, evFrame, closed, fixed, sameEs, wit, Option.isSome_some, St.with, wantedD, Array.size, te, einl, inls, efr]) trivial (fun _ _ => ?_) (fun i _ _ a1 a2 a3 => ?_)
  · have w1 : IntKind.i64.wrap (ph + res) = ph + res := wrap_in (by omega)
    have hq : ((ph + res).tmod rep != a.tmod rep) = false := by
      rw [Int.tmod_eq_emod_of_nonneg (by omega), Int.tmod_eq_emod_of_nonneg (by omega), e1]
      simp
    simp (maxSteps := 1000000) (implicitDefEqProofs := false) only [evRegion_st hok, w1, ne_eq, n0, not_false_eq_true, hq, e0, Try.ntmps68, Try.results68, efc68, fc68, ss, sd, evOp, evPlain, evVal, evMem, St.get, sliceOf, arrayOf, fieldsOf, normOf, norm, look, evVar, evFieldAddr, nameOf, St.alloc, St.drop, killOb, part, splice, depth, resultsV, ↓reduceIte, Nat.reduceBEq, Nat.reduceAdd, Nat.reduceSub, Nat.reduceMul, Nat.reduceEqDiff, Nat.reduceLeDiff, Nat.reduceLT, effOf, effMem, effVar, effLit, effMake, effApp, lend, evLit, evNil, freeze, evField, evIndexT, orNil, evSlice, placeOf, evMap, mapOf, keyOk, evFrame, closed, fixed, sameEs, wit, Option.isSome_some, St.with, wantedD, Array.size, te, einl, inls, efr]
  · have w1 : IntKind.i64.wrap (ph + (t + (i : Int))) = ph + (t + (i : Int)) := wrap_in (by omega)
    have w2 : IntKind.i64.wrap (t + (i : Int) + 1) = t + ((i + 1 : Nat) : Int) := by rw [wrap_in (by omega)]; omega
    have hq : ((ph + (t + (i : Int))).tmod rep != a.tmod rep) = true := by
      rw [Int.tmod_eq_emod_of_nonneg (by omega), Int.tmod_eq_emod_of_nonneg (by omega)]
      simpa using e3 i a1
    simp (maxSteps := 1000000) (implicitDefEqProofs := false) only [evRegion_st hok, w1, ne_eq, n0, not_false_eq_true, hq, w2, ss, sd, evOp, evPlain, evVal, evMem, St.get, sliceOf, arrayOf, fieldsOf, normOf, norm, look, evVar, evFieldAddr, nameOf, St.alloc, St.drop, killOb, part, splice, depth, resultsV, ↓reduceIte, Nat.reduceBEq, Nat.reduceAdd, Nat.reduceSub, Nat.reduceMul, Nat.reduceEqDiff, Nat.reduceLeDiff, Nat.reduceLT, effOf, effMem, effVar, effLit, effMake, effApp, lend, evLit, evNil, freeze, evField, evIndexT, orNil, evSlice, placeOf, evMap, mapOf, keyOk, evFrame, closed, fixed, sameEs, wit, Option.isSome_some, St.with, wantedD, Array.size, te, einl, inls, efr]
    (first | exact ⟨(), trivial⟩ | refine ⟨(), ?_, trivial⟩ | skip)

end Go.AM.D
