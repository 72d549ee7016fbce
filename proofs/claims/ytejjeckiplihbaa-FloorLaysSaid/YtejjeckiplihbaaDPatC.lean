/-
Patterns: Validate of both sides.
-/
import Derived.Test.YtejjeckiplihbaaDPatB
set_option linter.unusedSimpArgs false
set_option maxRecDepth 20000

namespace Go.AM.D
open Go Go.AM Go.Proofs

def rangeOk (p : Pat) : Prop := 1 ≤ p.w ∧ p.w ≤ 144 ∧ 1 ≤ p.h ∧ p.h ≤ 144 ∧ 0 ≤ p.s ∧ p.s < p.w
theorem range_iff {p : Pat} : (inB p.w 1 144 && inB p.h 1 144 && inB p.s 0 (p.w - 1)) = true ↔ rangeOk p := by
  simp only [Bool.and_eq_true, inB_iff, rangeOk]
  omega
theorem patE_bad {p : Pat} (h : ¬ rangeOk p) : patE p = 1 := by
  unfold patE
  rw [if_pos (Bool.eq_false_iff.2 fun hh => h (range_iff.1 hh))]
theorem patE_big {p : Pat} (h : rangeOk p) (h2 : 144 < p.w * p.h) : patE p = 4 := by
  unfold patE
  rw [if_neg (by rw [range_iff.2 h]; decide), if_pos h2]
theorem patE_len {p : Pat} (h : rangeOk p) (h2 : ¬ 144 < p.w * p.h) (h3 : ¬ (p.cs.length : Int) = p.w * p.h) : patE p = 1 := by
  unfold patE
  rw [if_neg (by rw [range_iff.2 h]; decide), if_neg h2, if_pos (by rw [show ((p.cs.length : Int) == p.w * p.h) = false by simpa using h3]; rfl)]
theorem patE_hue {p : Pat} (h : rangeOk p) (h2 : ¬ 144 < p.w * p.h) (h4 : p.cs.all hueOk = false) : patE p = 1 := by
  unfold patE
  rw [if_neg (by rw [range_iff.2 h]; decide), if_neg h2, if_pos (by rw [h4, Bool.and_false])]
theorem patE_fine {p : Pat} (h : rangeOk p) (h2 : ¬ 144 < p.w * p.h) (h3 : (p.cs.length : Int) = p.w * p.h) (h4 : p.cs.all hueOk = true) : patE p = 0 := by
  unfold patE
  rw [if_neg (by rw [range_iff.2 h]; decide), if_neg h2, if_neg (by rw [h4, show ((p.cs.length : Int) == p.w * p.h) = true by simpa using h3]; decide)]

set_option maxHeartbeats 4000000 in
theorem c82 (p : Pat) (hn : p.cs.length ≤ 1000000000) : (orcω E X0).call 82 [encPat p] = some (.int .i64 (patE p)) := by
  refine call_of rfl fn82 rfl ?_
  have k1 := c112 113 (fun x => !hueOk x) rfl c113 p.cs hn
  have e0 : p.cs.any (fun x => !hueOk x) = !p.cs.all hueOk := by rw [List.not_all_eq_any_not]
  rw [e0] at k1
  have f1 := patE_bad (p := p)
  have f2 := patE_big (p := p)
  have f3 := patE_len (p := p)
  have f4 := patE_hue (p := p)
  have f5 := patE_fine (p := p)
  unfold rangeOk at *
  unfold encPat
  generalize patE p = r at *
  by_cases a1 : p.w < 1
  · rw [f1 (by omega)]
    simp (maxSteps := 1000000) (implicitDefEqProofs := false) only [Try.ntmps82, Try.results82, efc82, a1, ss, sd, evOp, evPlain, evVal, evMem, St.get, sliceOf, arrayOf, fieldsOf, normOf, norm, look, evVar, evFieldAddr, nameOf, St.alloc, St.drop, killOb, part, splice, depth, resultsV, ↓reduceIte, Nat.reduceBEq, Nat.reduceAdd, Nat.reduceSub, Nat.reduceMul, Nat.reduceEqDiff, Nat.reduceLeDiff, Nat.reduceLT, effOf, effMem, effVar, effLit, effMake, effApp, lend, evLit, evNil, freeze, evField, evIndexT, orNil, evSlice, placeOf, evMap, mapOf, keyOk, evFrame, closed, fixed, sameEs, wit, Option.isSome_some, St.with, wantedD, Array.size, te, einl, inls, efr]
  by_cases a2 : 144 < p.w
  · rw [f1 (by omega)]
    simp (maxSteps := 1000000) (implicitDefEqProofs := false) only [Try.ntmps82, Try.results82, efc82, a1, a2, ss, sd, evOp, evPlain, evVal, evMem, St.get, sliceOf, arrayOf, fieldsOf, normOf, norm, look, evVar, evFieldAddr, nameOf, St.alloc, St.drop, killOb, part, splice, depth, resultsV, ↓reduceIte, Nat.reduceBEq, Nat.reduceAdd, Nat.reduceSub, Nat.reduceMul, Nat.reduceEqDiff, Nat.reduceLeDiff, Nat.reduceLT, effOf, effMem, effVar, effLit, effMake, effApp, lend, evLit, evNil, freeze, evField, evIndexT, orNil, evSlice, placeOf, evMap, mapOf, keyOk, evFrame, closed, fixed, sameEs, wit, Option.isSome_some, St.with, wantedD, Array.size, te, einl, inls, efr]
  by_cases a3 : p.h < 1
  · rw [f1 (by omega)]
    simp (maxSteps := 1000000) (implicitDefEqProofs := false) only [Try.ntmps82, Try.results82, efc82, a1, a2, a3, ss, sd, evOp, evPlain, evVal, evMem, St.get, sliceOf, arrayOf, fieldsOf, normOf, norm, look, evVar, evFieldAddr, nameOf, St.alloc, St.drop, killOb, part, splice, depth, resultsV, ↓reduceIte, Nat.reduceBEq, Nat.reduceAdd, Nat.reduceSub, Nat.reduceMul, Nat.reduceEqDiff, Nat.reduceLeDiff, Nat.reduceLT, effOf, effMem, effVar, effLit, effMake, effApp, lend, evLit, evNil, freeze, evField, evIndexT, orNil, evSlice, placeOf, evMap, mapOf, keyOk, evFrame, closed, fixed, sameEs, wit, Option.isSome_some, St.with, wantedD, Array.size, te, einl, inls, efr]
  by_cases a4 : 144 < p.h
  · rw [f1 (by omega)]
    simp (maxSteps := 1000000) (implicitDefEqProofs := false) only [Try.ntmps82, Try.results82, efc82, a1, a2, a3, a4, ss, sd, evOp, evPlain, evVal, evMem, St.get, sliceOf, arrayOf, fieldsOf, normOf, norm, look, evVar, evFieldAddr, nameOf, St.alloc, St.drop, killOb, part, splice, depth, resultsV, ↓reduceIte, Nat.reduceBEq, Nat.reduceAdd, Nat.reduceSub, Nat.reduceMul, Nat.reduceEqDiff, Nat.reduceLeDiff, Nat.reduceLT, effOf, effMem, effVar, effLit, effMake, effApp, lend, evLit, evNil, freeze, evField, evIndexT, orNil, evSlice, placeOf, evMap, mapOf, keyOk, evFrame, closed, fixed, sameEs, wit, Option.isSome_some, St.with, wantedD, Array.size, te, einl, inls, efr]
  by_cases a5 : p.s < 0
  · rw [f1 (by omega)]
    simp (maxSteps := 1000000) (implicitDefEqProofs := false) only [Try.ntmps82, Try.results82, efc82, a1, a2, a3, a4, a5, ss, sd, evOp, evPlain, evVal, evMem, St.get, sliceOf, arrayOf, fieldsOf, normOf, norm, look, evVar, evFieldAddr, nameOf, St.alloc, St.drop, killOb, part, splice, depth, resultsV, ↓reduceIte, Nat.reduceBEq, Nat.reduceAdd, Nat.reduceSub, Nat.reduceMul, Nat.reduceEqDiff, Nat.reduceLeDiff, Nat.reduceLT, effOf, effMem, effVar, effLit, effMake, effApp, lend, evLit, evNil, freeze, evField, evIndexT, orNil, evSlice, placeOf, evMap, mapOf, keyOk, evFrame, closed, fixed, sameEs, wit, Option.isSome_some, St.with, wantedD, Array.size, te, einl, inls, efr]
  by_cases a6 : p.w ≤ p.s
  · rw [f1 (by omega)]
    simp (maxSteps := 1000000) (implicitDefEqProofs := false) only [Try.ntmps82, Try.results82, efc82, a1, a2, a3, a4, a5, a6, ss, sd, evOp, evPlain, evVal, evMem, St.get, sliceOf, arrayOf, fieldsOf, normOf, norm, look, evVar, evFieldAddr, nameOf, St.alloc, St.drop, killOb, part, splice, depth, resultsV, ↓reduceIte, Nat.reduceBEq, Nat.reduceAdd, Nat.reduceSub, Nat.reduceMul, Nat.reduceEqDiff, Nat.reduceLeDiff, Nat.reduceLT, effOf, effMem, effVar, effLit, effMake, effApp, lend, evLit, evNil, freeze, evField, evIndexT, orNil, evSlice, placeOf, evMap, mapOf, keyOk, evFrame, closed, fixed, sameEs, wit, Option.isSome_some, St.with, wantedD, Array.size, te, einl, inls, efr]
  have ok : 1 ≤ p.w ∧ p.w ≤ 144 ∧ 1 ≤ p.h ∧ p.h ≤ 144 ∧ 0 ≤ p.s ∧ p.s < p.w := by omega
  have m := mul_in (a := p.w) (b := p.h) (A := 144) (B := 144) (by omega) (by omega) (by omega) (by omega) (by omega)
  have w1 : IntKind.i64.wrap (p.w * p.h) = p.w * p.h := wrap_in (by omega)
  by_cases a7 : 144 < p.w * p.h
  · rw [f2 ok a7]
    simp (maxSteps := 1000000) (implicitDefEqProofs := false) only [Try.ntmps82, Try.results82, efc82, a1, a2, a3, a4, a5, a6, w1, a7, ss, sd, evOp, evPlain, evVal, evMem, St.get, sliceOf, arrayOf, fieldsOf, normOf, norm, look, evVar, evFieldAddr, nameOf, St.alloc, St.drop, killOb, part, splice, depth, resultsV, ↓reduceIte, Nat.reduceBEq, Nat.reduceAdd, Nat.reduceSub, Nat.reduceMul, Nat.reduceEqDiff, Nat.reduceLeDiff, Nat.reduceLT, effOf, effMem, effVar, effLit, effMake, effApp, lend, evLit, evNil, freeze, evField, evIndexT, orNil, evSlice, placeOf, evMap, mapOf, keyOk, evFrame, closed, fixed, sameEs, wit, Option.isSome_some, St.with, wantedD, Array.size, te, einl, inls, efr]
  by_cases a8 : (p.cs.length : Int) = p.w * p.h
  · have q : ((p.cs.length : Int) != p.w * p.h) = false := by simpa using a8
    cases a9 : p.cs.all hueOk with
    | true =>
      rw [f5 ok a7 a8 a9]
      rw [a9] at k1
      simp (maxSteps := 1000000) (implicitDefEqProofs := false) only [Try.ntmps82, Try.results82, efc82, a1, a2, a3, a4, a5, a6, w1, a7, q, k1, List.length_map, ss, sd, evOp, evPlain, evVal, evMem, St.get, sliceOf, arrayOf, fieldsOf, normOf, norm, look, evVar, evFieldAddr, nameOf, St.alloc, St.drop, killOb, part, splice, depth, resultsV, ↓reduceIte, Nat.reduceBEq, Nat.reduceAdd, Nat.reduceSub, Nat.reduceMul, Nat.reduceEqDiff, Nat.reduceLeDiff, Nat.reduceLT, effOf, effMem, effVar, effLit, effMake, effApp, lend, evLit, evNil, freeze, evField, evIndexT, orNil, evSlice, placeOf, evMap, mapOf, keyOk, evFrame, closed, fixed, sameEs, wit, Option.isSome_some, St.with, wantedD, Array.size, te, einl, inls, efr]
    | false =>
      rw [f4 ok a7 a9]
      rw [a9] at k1
      simp (maxSteps := 1000000) (implicitDefEqProofs := false) only [Try.ntmps82, Try.results82, efc82, a1, a2, a3, a4, a5, a6, w1, a7, q, k1, List.length_map, ss, sd, evOp, evPlain, evVal, evMem, St.get, sliceOf, arrayOf, fieldsOf, normOf, norm, look, evVar, evFieldAddr, nameOf, St.alloc, St.drop, killOb, part, splice, depth, resultsV, ↓reduceIte, Nat.reduceBEq, Nat.reduceAdd, Nat.reduceSub, Nat.reduceMul, Nat.reduceEqDiff, Nat.reduceLeDiff, Nat.reduceLT, effOf, effMem, effVar, effLit, effMake, effApp, lend, evLit, evNil, freeze, evField, evIndexT, orNil, evSlice, placeOf, evMap, mapOf, keyOk, evFrame, closed, fixed, sameEs, wit, Option.isSome_some, St.with, wantedD, Array.size, te, einl, inls, efr]
  · have q : ((p.cs.length : Int) != p.w * p.h) = true := by simpa using a8
    rw [f3 ok a7 a8]
    simp (maxSteps := 1000000) (implicitDefEqProofs := false) only [Try.ntmps82, Try.results82, efc82, a1, a2, a3, a4, a5, a6, w1, a7, q, List.length_map, ss, sd, evOp, evPlain, evVal, evMem, St.get, sliceOf, arrayOf, fieldsOf, normOf, norm, look, evVar, evFieldAddr, nameOf, St.alloc, St.drop, killOb, part, splice, depth, resultsV, ↓reduceIte, Nat.reduceBEq, Nat.reduceAdd, Nat.reduceSub, Nat.reduceMul, Nat.reduceEqDiff, Nat.reduceLeDiff, Nat.reduceLT, effOf, effMem, effVar, effLit, effMake, effApp, lend, evLit, evNil, freeze, evField, evIndexT, orNil, evSlice, placeOf, evMap, mapOf, keyOk, evFrame, closed, fixed, sameEs, wit, Option.isSome_some, St.with, wantedD, Array.size, te, einl, inls, efr]

set_option maxHeartbeats 4000000 in
theorem c42 (p : Pat) (hn : p.cs.length ≤ 1000000000) : (orcω E X0).call 42 [encPat p] = some (.int .i64 (patE p)) := by
  refine call_of rfl fn42 rfl ?_
  have k1 := fun x lo hi => c87 x lo hi
  have f1 := patE_bad (p := p)
  have f2 := patE_big (p := p)
  have f3 := patE_len (p := p)
  have f4 := patE_hue (p := p)
  have f5 := patE_fine (p := p)
  have r1 := range_iff (p := p)
  unfold rangeOk at *
  unfold encPat
  generalize patE p = r at *
  cases a1 : inB p.w 1 144 with
  | false =>
    have : r = 1 := f1 fun hh => by have := r1.2 hh; rw [a1] at this; simp at this
    rw [this]
    simp (maxSteps := 1000000) (implicitDefEqProofs := false) only [Try.ntmps42, Try.results42, efc42, fc42, k1, a1, ss, sd, evOp, evPlain, evVal, evMem, St.get, sliceOf, arrayOf, fieldsOf, normOf, norm, look, evVar, evFieldAddr, nameOf, St.alloc, St.drop, killOb, part, splice, depth, resultsV, ↓reduceIte, Nat.reduceBEq, Nat.reduceAdd, Nat.reduceSub, Nat.reduceMul, Nat.reduceEqDiff, Nat.reduceLeDiff, Nat.reduceLT, effOf, effMem, effVar, effLit, effMake, effApp, lend, evLit, evNil, freeze, evField, evIndexT, orNil, evSlice, placeOf, evMap, mapOf, keyOk, evFrame, closed, fixed, sameEs, wit, Option.isSome_some, St.with, wantedD, Array.size, te, einl, inls, efr]
  | true =>
  cases a2 : inB p.h 1 144 with
  | false =>
    have : r = 1 := f1 fun hh => by have := r1.2 hh; rw [a2] at this; simp at this
    rw [this]
    simp (maxSteps := 1000000) (implicitDefEqProofs := false) only [Try.ntmps42, Try.results42, efc42, fc42, k1, a1, a2, ss, sd, evOp, evPlain, evVal, evMem, St.get, sliceOf, arrayOf, fieldsOf, normOf, norm, look, evVar, evFieldAddr, nameOf, St.alloc, St.drop, killOb, part, splice, depth, resultsV, ↓reduceIte, Nat.reduceBEq, Nat.reduceAdd, Nat.reduceSub, Nat.reduceMul, Nat.reduceEqDiff, Nat.reduceLeDiff, Nat.reduceLT, effOf, effMem, effVar, effLit, effMake, effApp, lend, evLit, evNil, freeze, evField, evIndexT, orNil, evSlice, placeOf, evMap, mapOf, keyOk, evFrame, closed, fixed, sameEs, wit, Option.isSome_some, St.with, wantedD, Array.size, te, einl, inls, efr]
  | true =>
  have b1 := inB_iff.1 a1
  have b2 := inB_iff.1 a2
  have w0 : IntKind.i64.wrap (p.w - 1) = p.w - 1 := wrap_in (by omega)
  cases a3 : inB p.s 0 (p.w - 1) with
  | false =>
    have : r = 1 := f1 fun hh => by have := r1.2 hh; rw [a3] at this; simp at this
    rw [this]
    simp (maxSteps := 1000000) (implicitDefEqProofs := false) only [Try.ntmps42, Try.results42, efc42, fc42, k1, a1, a2, w0, a3, ss, sd, evOp, evPlain, evVal, evMem, St.get, sliceOf, arrayOf, fieldsOf, normOf, norm, look, evVar, evFieldAddr, nameOf, St.alloc, St.drop, killOb, part, splice, depth, resultsV, ↓reduceIte, Nat.reduceBEq, Nat.reduceAdd, Nat.reduceSub, Nat.reduceMul, Nat.reduceEqDiff, Nat.reduceLeDiff, Nat.reduceLT, effOf, effMem, effVar, effLit, effMake, effApp, lend, evLit, evNil, freeze, evField, evIndexT, orNil, evSlice, placeOf, evMap, mapOf, keyOk, evFrame, closed, fixed, sameEs, wit, Option.isSome_some, St.with, wantedD, Array.size, te, einl, inls, efr]
  | true =>
  have b3 := inB_iff.1 a3
  have ok : 1 ≤ p.w ∧ p.w ≤ 144 ∧ 1 ≤ p.h ∧ p.h ≤ 144 ∧ 0 ≤ p.s ∧ p.s < p.w := by omega
  have m := mul_in (a := p.w) (b := p.h) (A := 144) (B := 144) (by omega) (by omega) (by omega) (by omega) (by omega)
  have w1 : IntKind.i64.wrap (p.w * p.h) = p.w * p.h := wrap_in (by omega)
  by_cases a7 : 144 < p.w * p.h
  · rw [f2 ok a7]
    simp (maxSteps := 1000000) (implicitDefEqProofs := false) only [Try.ntmps42, Try.results42, efc42, fc42, k1, a1, a2, w0, a3, w1, a7, ss, sd, evOp, evPlain, evVal, evMem, St.get, sliceOf, arrayOf, fieldsOf, normOf, norm, look, evVar, evFieldAddr, nameOf, St.alloc, St.drop, killOb, part, splice, depth, resultsV, ↓reduceIte, Nat.reduceBEq, Nat.reduceAdd, Nat.reduceSub, Nat.reduceMul, Nat.reduceEqDiff, Nat.reduceLeDiff, Nat.reduceLT, effOf, effMem, effVar, effLit, effMake, effApp, lend, evLit, evNil, freeze, evField, evIndexT, orNil, evSlice, placeOf, evMap, mapOf, keyOk, evFrame, closed, fixed, sameEs, wit, Option.isSome_some, St.with, wantedD, Array.size, te, einl, inls, efr]
  by_cases a8 : (p.cs.length : Int) = p.w * p.h
  · have q : ((p.cs.length : Int) != p.w * p.h) = false := by simpa using a8
    simp (maxSteps := 1000000) (implicitDefEqProofs := false) only [Try.ntmps42, Try.results42, efc42, fc42, k1, a1, a2, w0, a3, w1, a7, q, List.length_map, ss, sd, evOp, evPlain, evVal, evMem, St.get, sliceOf, arrayOf, fieldsOf, normOf, norm, look, evVar, evFieldAddr, nameOf, St.alloc, St.drop, killOb, part, splice, depth, resultsV, ↓reduceIte, Nat.reduceBEq, Nat.reduceAdd, Nat.reduceSub, Nat.reduceMul, Nat.reduceEqDiff, Nat.reduceLeDiff, Nat.reduceLT, effOf, effMem, effVar, effLit, effMake, effApp, lend, evLit, evNil, freeze, evField, evIndexT, orNil, evSlice, placeOf, evMap, mapOf, keyOk, evFrame, closed, fixed, sameEs, wit, Option.isSome_some, St.with, wantedD, Array.size, te, einl, inls, efr]
    have f6 := f4 ok a7
    have f7 := f5 ok a7 a8
    generalize hr : loopAt _ _ _ _ _ _ = r; revert r
    refine loop_list p.cs (fun pre _ => [(3, .int .i64 pre.length)]) (fun _ _ => []) (fun pre (_ : Unit) => pre.all hueOk = true) () (by omega) (by simp (maxSteps := 1000000) (implicitDefEqProofs := false) only [ss, sd, evOp, evPlain, evVal, evMem, St.get, sliceOf, arrayOf, fieldsOf, normOf, norm, look, evVar, evFieldAddr, nameOf, St.alloc, St.drop, killOb, part, splice, depth, resultsV, ↓reduceIte, Nat.reduceBEq, Nat.reduceAdd, Nat.reduceSub, Nat.reduceMul, Nat.reduceEqDiff, Nat.reduceLeDiff, Nat.reduceLT, effOf, effMem, effVar, effLit, effMake, effApp, lend, evLit, evNil, freeze, evField, evIndexT, orNil, evSlice, placeOf, evMap, mapOf, keyOk, evFrame, closed, fixed, sameEs, wit, Option.isSome_some, St.with, wantedD, Array.size, te, einl, inls, efr]) rfl (fun _ hi => ?_) (fun pre a post _ hp hi g1 g2 g3 g4 => ?_)
    · rw [f7 hi]
      simp (maxSteps := 1000000) (implicitDefEqProofs := false) only [Int.lt_irrefl, Try.ntmps42, Try.results42, efc42, fc42, List.length_map, ss, sd, evOp, evPlain, evVal, evMem, St.get, sliceOf, arrayOf, fieldsOf, normOf, norm, look, evVar, evFieldAddr, nameOf, St.alloc, St.drop, killOb, part, splice, depth, resultsV, ↓reduceIte, Nat.reduceBEq, Nat.reduceAdd, Nat.reduceSub, Nat.reduceMul, Nat.reduceEqDiff, Nat.reduceLeDiff, Nat.reduceLT, effOf, effMem, effVar, effLit, effMake, effApp, lend, evLit, evNil, freeze, evField, evIndexT, orNil, evSlice, placeOf, evMap, mapOf, keyOk, evFrame, closed, fixed, sameEs, wit, Option.isSome_some, St.with, wantedD, Array.size, te, einl, inls, efr]
    · cases hc : inB a 0 7 with
      | true =>
        simp (maxSteps := 1000000) (implicitDefEqProofs := false) only [g1, g2, g3, g4, k1, hc, Int.natCast_nonneg, Int.toNat_natCast, List.getElem?_map, List.length_map, ss, sd, evOp, evPlain, evVal, evMem, St.get, sliceOf, arrayOf, fieldsOf, normOf, norm, look, evVar, evFieldAddr, nameOf, St.alloc, St.drop, killOb, part, splice, depth, resultsV, ↓reduceIte, Nat.reduceBEq, Nat.reduceAdd, Nat.reduceSub, Nat.reduceMul, Nat.reduceEqDiff, Nat.reduceLeDiff, Nat.reduceLT, effOf, effMem, effVar, effLit, effMake, effApp, lend, evLit, evNil, freeze, evField, evIndexT, orNil, evSlice, placeOf, evMap, mapOf, keyOk, evFrame, closed, fixed, sameEs, wit, Option.isSome_some, St.with, wantedD, Array.size, te, einl, inls, efr]
        exact ⟨(), by rw [List.all_append, hi]; simp [hueOk, hc]⟩
      | false =>
        have : r = 1 := f6 (by rw [hp, List.all_append, List.all_cons]; simp [hueOk, hc])
        rw [this]
        simp (maxSteps := 1000000) (implicitDefEqProofs := false) only [g1, g2, g3, g4, k1, hc, Int.natCast_nonneg, Int.toNat_natCast, List.getElem?_map, List.length_map, Try.ntmps42, Try.results42, efc42, fc42, ss, sd, evOp, evPlain, evVal, evMem, St.get, sliceOf, arrayOf, fieldsOf, normOf, norm, look, evVar, evFieldAddr, nameOf, St.alloc, St.drop, killOb, part, splice, depth, resultsV, ↓reduceIte, Nat.reduceBEq, Nat.reduceAdd, Nat.reduceSub, Nat.reduceMul, Nat.reduceEqDiff, Nat.reduceLeDiff, Nat.reduceLT, effOf, effMem, effVar, effLit, effMake, effApp, lend, evLit, evNil, freeze, evField, evIndexT, orNil, evSlice, placeOf, evMap, mapOf, keyOk, evFrame, closed, fixed, sameEs, wit, Option.isSome_some, St.with, wantedD, Array.size, te, einl, inls, efr]
  · have q : ((p.cs.length : Int) != p.w * p.h) = true := by simpa using a8
    rw [f3 ok a7 a8]
    simp (maxSteps := 1000000) (implicitDefEqProofs := false) only [Try.ntmps42, Try.results42, efc42, fc42, k1, a1, a2, w0, a3, w1, a7, q, List.length_map, ss, sd, evOp, evPlain, evVal, evMem, St.get, sliceOf, arrayOf, fieldsOf, normOf, norm, look, evVar, evFieldAddr, nameOf, St.alloc, St.drop, killOb, part, splice, depth, resultsV, ↓reduceIte, Nat.reduceBEq, Nat.reduceAdd, Nat.reduceSub, Nat.reduceMul, Nat.reduceEqDiff, Nat.reduceLeDiff, Nat.reduceLT, effOf, effMem, effVar, effLit, effMake, effApp, lend, evLit, evNil, freeze, evField, evIndexT, orNil, evSlice, placeOf, evMap, mapOf, keyOk, evFrame, closed, fixed, sameEs, wit, Option.isSome_some, St.with, wantedD, Array.size, te, einl, inls, efr]
end Go.AM.D
