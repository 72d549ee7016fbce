/-
The colour of a cell of the floor (Laid), of both sides.
-/
import Derived.Test.YtejjeckiplihbaaDDrum
import Derived.Test.YtejjeckiplihbaaDRndG
import Derived.Test.YtejjeckiplihbaaDFitP
set_option linter.unusedSimpArgs false
set_option maxRecDepth 20000

namespace Go.AM.D
open Go Go.AM Go.Proofs

set_option maxHeartbeats 4000000 in
theorem c72g (s : Strip) (w x y : Int) (hs : stripOk s = true) (hx : x ≤ 9223372036854775807) (hw : 1 ≤ w ∧ w ≤ 20) : (orcω E X0).call 72 [encStrip s, .int .i64 w, .int .i64 x, .int .i64 y] = some (.bool (lies w x y s)) := by
  refine call_of rfl fn72 rfl ?_
  have hs := stripOk_iff.1 hs
  have e1 := lies_iff (w := w) (x := x) (y := y) (s := s)
  have e2 := lies_no (w := w) (x := x) (y := y) (s := s)
  obtain ⟨a, b, c⟩ := s
  dsimp only at e1 e2 hs
  unfold encStrip
  generalize lies w x y ⟨a, b, c⟩ = r at *
  by_cases h1 : a ≤ x
  · have w1 : IntKind.i64.wrap (x - w) = x - w := wrap_in (by omega)
    by_cases h2 : x - w < a
    · by_cases h3 : b ≤ y
      · by_cases h4 : y < c
        · have r1 := e1.2 (by omega)
          simp (maxSteps := 1000000) (implicitDefEqProofs := false) only [Try.ntmps72, Try.results72, efc72, w1, h1, h2, h3, h4, r1, ss, sd, evOp, evPlain, evVal, evMem, St.get, sliceOf, arrayOf, fieldsOf, normOf, norm, look, evVar, evFieldAddr, nameOf, St.alloc, St.drop, killOb, part, splice, depth, resultsV, ↓reduceIte, Nat.reduceBEq, Nat.reduceAdd, Nat.reduceSub, Nat.reduceMul, Nat.reduceEqDiff, Nat.reduceLeDiff, Nat.reduceLT, effOf, effMem, effVar, effLit, effMake, effApp, lend, evLit, evNil, freeze, evField, evIndexT, orNil, evSlice, placeOf, evMap, mapOf, keyOk, evFrame, closed, fixed, sameEs, wit, Option.isSome_some, St.with, wantedD, Array.size, te, einl, inls, efr]
        · have r1 := e2 (by omega)
          simp (maxSteps := 1000000) (implicitDefEqProofs := false) only [Try.ntmps72, Try.results72, efc72, w1, h1, h2, h3, h4, r1, ss, sd, evOp, evPlain, evVal, evMem, St.get, sliceOf, arrayOf, fieldsOf, normOf, norm, look, evVar, evFieldAddr, nameOf, St.alloc, St.drop, killOb, part, splice, depth, resultsV, ↓reduceIte, Nat.reduceBEq, Nat.reduceAdd, Nat.reduceSub, Nat.reduceMul, Nat.reduceEqDiff, Nat.reduceLeDiff, Nat.reduceLT, effOf, effMem, effVar, effLit, effMake, effApp, lend, evLit, evNil, freeze, evField, evIndexT, orNil, evSlice, placeOf, evMap, mapOf, keyOk, evFrame, closed, fixed, sameEs, wit, Option.isSome_some, St.with, wantedD, Array.size, te, einl, inls, efr]
      · have r1 := e2 (by omega)
        simp (maxSteps := 1000000) (implicitDefEqProofs := false) only [Try.ntmps72, Try.results72, efc72, w1, h1, h2, h3, r1, ss, sd, evOp, evPlain, evVal, evMem, St.get, sliceOf, arrayOf, fieldsOf, normOf, norm, look, evVar, evFieldAddr, nameOf, St.alloc, St.drop, killOb, part, splice, depth, resultsV, ↓reduceIte, Nat.reduceBEq, Nat.reduceAdd, Nat.reduceSub, Nat.reduceMul, Nat.reduceEqDiff, Nat.reduceLeDiff, Nat.reduceLT, effOf, effMem, effVar, effLit, effMake, effApp, lend, evLit, evNil, freeze, evField, evIndexT, orNil, evSlice, placeOf, evMap, mapOf, keyOk, evFrame, closed, fixed, sameEs, wit, Option.isSome_some, St.with, wantedD, Array.size, te, einl, inls, efr]
    · have r1 := e2 (by omega)
      simp (maxSteps := 1000000) (implicitDefEqProofs := false) only [Try.ntmps72, Try.results72, efc72, w1, h1, h2, r1, ss, sd, evOp, evPlain, evVal, evMem, St.get, sliceOf, arrayOf, fieldsOf, normOf, norm, look, evVar, evFieldAddr, nameOf, St.alloc, St.drop, killOb, part, splice, depth, resultsV, ↓reduceIte, Nat.reduceBEq, Nat.reduceAdd, Nat.reduceSub, Nat.reduceMul, Nat.reduceEqDiff, Nat.reduceLeDiff, Nat.reduceLT, effOf, effMem, effVar, effLit, effMake, effApp, lend, evLit, evNil, freeze, evField, evIndexT, orNil, evSlice, placeOf, evMap, mapOf, keyOk, evFrame, closed, fixed, sameEs, wit, Option.isSome_some, St.with, wantedD, Array.size, te, einl, inls, efr]
  · have r1 := e2 (by omega)
    simp (maxSteps := 1000000) (implicitDefEqProofs := false) only [Try.ntmps72, Try.results72, efc72, h1, r1, ss, sd, evOp, evPlain, evVal, evMem, St.get, sliceOf, arrayOf, fieldsOf, normOf, norm, look, evVar, evFieldAddr, nameOf, St.alloc, St.drop, killOb, part, splice, depth, resultsV, ↓reduceIte, Nat.reduceBEq, Nat.reduceAdd, Nat.reduceSub, Nat.reduceMul, Nat.reduceEqDiff, Nat.reduceLeDiff, Nat.reduceLT, effOf, effMem, effVar, effLit, effMake, effApp, lend, evLit, evNil, freeze, evField, evIndexT, orNil, evSlice, placeOf, evMap, mapOf, keyOk, evFrame, closed, fixed, sameEs, wit, Option.isSome_some, St.with, wantedD, Array.size, te, einl, inls, efr]

set_option maxHeartbeats 4000000 in
theorem c74g (s : Strip) (w x y : Int) (hs : stripOk s = true) (hw : 1 ≤ w ∧ w ≤ 20) : (orcω E X0).call 74 [encStrip s, .int .i64 w, .int .i64 x, .int .i64 y] = some (.bool (lies w x y s)) := by
  refine call_of rfl fn74 rfl ?_
  have hs := stripOk_iff.1 hs
  have k1 := c65 s.x (-100) 100
  have e1 := lies_iff (w := w) (x := x) (y := y) (s := s)
  have e2 := lies_no (w := w) (x := x) (y := y) (s := s)
  obtain ⟨a, b, c⟩ := s
  dsimp only at e1 e2 k1 hs
  unfold encStrip
  generalize lies w x y ⟨a, b, c⟩ = r at *
  have w1 : IntKind.i64.wrap (a + w) = a + w := wrap_in (by omega)
  rw [show inB a (-100) 100 = true from inB_iff.2 (by omega)] at k1
  by_cases h1 : a ≤ x
  · by_cases h2 : x < a + w
    · by_cases h3 : b ≤ y
      · by_cases h4 : y < c
        · have r1 := e1.2 (by omega)
          simp (maxSteps := 1000000) (implicitDefEqProofs := false) only [Try.ntmps74, Try.results74, efc74, k1, w1, h1, h2, h3, h4, r1, ss, sd, evOp, evPlain, evVal, evMem, St.get, sliceOf, arrayOf, fieldsOf, normOf, norm, look, evVar, evFieldAddr, nameOf, St.alloc, St.drop, killOb, part, splice, depth, resultsV, ↓reduceIte, Nat.reduceBEq, Nat.reduceAdd, Nat.reduceSub, Nat.reduceMul, Nat.reduceEqDiff, Nat.reduceLeDiff, Nat.reduceLT, effOf, effMem, effVar, effLit, effMake, effApp, lend, evLit, evNil, freeze, evField, evIndexT, orNil, evSlice, placeOf, evMap, mapOf, keyOk, evFrame, closed, fixed, sameEs, wit, Option.isSome_some, St.with, wantedD, Array.size, te, einl, inls, efr]
        · have r1 := e2 (by omega)
          simp (maxSteps := 1000000) (implicitDefEqProofs := false) only [Try.ntmps74, Try.results74, efc74, k1, w1, h1, h2, h3, h4, r1, ss, sd, evOp, evPlain, evVal, evMem, St.get, sliceOf, arrayOf, fieldsOf, normOf, norm, look, evVar, evFieldAddr, nameOf, St.alloc, St.drop, killOb, part, splice, depth, resultsV, ↓reduceIte, Nat.reduceBEq, Nat.reduceAdd, Nat.reduceSub, Nat.reduceMul, Nat.reduceEqDiff, Nat.reduceLeDiff, Nat.reduceLT, effOf, effMem, effVar, effLit, effMake, effApp, lend, evLit, evNil, freeze, evField, evIndexT, orNil, evSlice, placeOf, evMap, mapOf, keyOk, evFrame, closed, fixed, sameEs, wit, Option.isSome_some, St.with, wantedD, Array.size, te, einl, inls, efr]
      · have r1 := e2 (by omega)
        simp (maxSteps := 1000000) (implicitDefEqProofs := false) only [Try.ntmps74, Try.results74, efc74, k1, w1, h1, h2, h3, r1, ss, sd, evOp, evPlain, evVal, evMem, St.get, sliceOf, arrayOf, fieldsOf, normOf, norm, look, evVar, evFieldAddr, nameOf, St.alloc, St.drop, killOb, part, splice, depth, resultsV, ↓reduceIte, Nat.reduceBEq, Nat.reduceAdd, Nat.reduceSub, Nat.reduceMul, Nat.reduceEqDiff, Nat.reduceLeDiff, Nat.reduceLT, effOf, effMem, effVar, effLit, effMake, effApp, lend, evLit, evNil, freeze, evField, evIndexT, orNil, evSlice, placeOf, evMap, mapOf, keyOk, evFrame, closed, fixed, sameEs, wit, Option.isSome_some, St.with, wantedD, Array.size, te, einl, inls, efr]
    · have r1 := e2 (by omega)
      simp (maxSteps := 1000000) (implicitDefEqProofs := false) only [Try.ntmps74, Try.results74, efc74, k1, w1, h1, h2, r1, ss, sd, evOp, evPlain, evVal, evMem, St.get, sliceOf, arrayOf, fieldsOf, normOf, norm, look, evVar, evFieldAddr, nameOf, St.alloc, St.drop, killOb, part, splice, depth, resultsV, ↓reduceIte, Nat.reduceBEq, Nat.reduceAdd, Nat.reduceSub, Nat.reduceMul, Nat.reduceEqDiff, Nat.reduceLeDiff, Nat.reduceLT, effOf, effMem, effVar, effLit, effMake, effApp, lend, evLit, evNil, freeze, evField, evIndexT, orNil, evSlice, placeOf, evMap, mapOf, keyOk, evFrame, closed, fixed, sameEs, wit, Option.isSome_some, St.with, wantedD, Array.size, te, einl, inls, efr]
  · have r1 := e2 (by omega)
    simp (maxSteps := 1000000) (implicitDefEqProofs := false) only [Try.ntmps74, Try.results74, efc74, k1, w1, h1, r1, ss, sd, evOp, evPlain, evVal, evMem, St.get, sliceOf, arrayOf, fieldsOf, normOf, norm, look, evVar, evFieldAddr, nameOf, St.alloc, St.drop, killOb, part, splice, depth, resultsV, ↓reduceIte, Nat.reduceBEq, Nat.reduceAdd, Nat.reduceSub, Nat.reduceMul, Nat.reduceEqDiff, Nat.reduceLeDiff, Nat.reduceLT, effOf, effMem, effVar, effLit, effMake, effApp, lend, evLit, evNil, freeze, evField, evIndexT, orNil, evSlice, placeOf, evMap, mapOf, keyOk, evFrame, closed, fixed, sameEs, wit, Option.isSome_some, St.with, wantedD, Array.size, te, einl, inls, efr]

/-- The colour at the first strip that has the cell and is cut. -/
def laidCut (p : Pat) (j : Job) (s : Strip) (x y : Int) (c : Cut) : V := atV p (x - s.x) (((rollOf j c).ph + c.a + y - s.a) % j.rep)
def laidIn (p : Pat) (j : Job) (s : Strip) (x y : Int) (i : Nat) (no : V) : List Cut → V
  | [] => no
  | c :: r => if c.s = (i : Int) then laidCut p j s x y c else laidIn p j s x y i no r
def laidGo (p : Pat) (j : Job) (w x y : Int) (cuts : List Cut) : Nat → List Strip → V
  | _, [] => .tup [.int .i64 0, .int .i64 5]
  | i, s :: r => if lies w x y s = true then laidIn p j s x y i (laidGo p j w x y cuts (i + 1) r) cuts else laidGo p j w x y cuts (i + 1) r
def laidV (p : Pat) (w : Int) (j : Job) (cuts : List Cut) (x y : Int) : V :=
  if ¬ patE p = 0 then .tup [.int .i64 0, .int .i64 (patE p)]
  else if ¬ jobE j = 0 then .tup [.int .i64 0, .int .i64 (jobE j)]
  else if inB w 1 20 = false then .tup [.int .i64 0, .int .i64 1]
  else if ¬ (w.tmod (leastW p : Nat) = 0 ∧ j.rep.tmod (roundN (leastW p) (leastS p) (leastH p) : Nat) = 0) then .tup [.int .i64 0, .int .i64 13]
  else if ¬ checkL j cuts = 0 then .tup [.int .i64 0, .int .i64 (checkL j cuts)]
  else laidGo p j w x y cuts 0 j.ss
theorem atV_form (p : Pat) (x y : Int) : ∃ a b, atV p x y = .tup [.int .i64 a, .int .i64 b] := ⟨_, _, rfl⟩

theorem okT38 : okCode (Try.f38.body.getD .skip) = true := by decide +kernel
set_option maxRecDepth 20000 in
set_option maxHeartbeats 16000000 in
theorem c38 (p : Pat) (w : Int) (j : Job) (cuts : List Cut) (x y : Int) (hn : p.cs.length ≤ 1000) (hc : cuts.length ≤ 1000) (hx : -9223372036854775808 ≤ x ∧ x ≤ 9223372036854775807) :
    (orcω E X0).call 38 [encPat p, .int .i64 w, encJob j, .sl false (cuts.map encCut), .int .i64 x, .int .i64 y] = some (laidV p w j cuts x y) := by
  refine call_of rfl fn38 rfl ?_
  have hok := okT38
  simp only [Try.f38, Option.getD_some, okCode, Bool.and_eq_true, Bool.and_true, Bool.true_and] at hok
  have k1 := c82 p (by omega)
  have k2 := c50 j
  have k3 := c63 w 1 20
  have k4 := c83 p (by omega)
  unfold laidV
  by_cases a1 : patE p = 0
  rotate_left
  · have q1 : (patE p != 0) = true := by simpa using a1
    unfold encPat encJob at *
    simp (maxSteps := 1000000) (implicitDefEqProofs := false) only [Try.ntmps38, Try.results38, efc38, fc38, k1, a1, q1, ss, sd, evOp, evPlain, evVal, evMem, St.get, sliceOf, arrayOf, fieldsOf, normOf, norm, look, evVar, evFieldAddr, nameOf, St.alloc, St.drop, killOb, part, splice, depth, resultsV, ↓reduceIte, Nat.reduceBEq, Nat.reduceAdd, Nat.reduceSub, Nat.reduceMul, Nat.reduceEqDiff, Nat.reduceLeDiff, Nat.reduceLT, effOf, effMem, effVar, effLit, effMake, effApp, lend, evLit, evNil, freeze, evField, evIndexT, orNil, evSlice, placeOf, evMap, mapOf, keyOk, evFrame, closed, fixed, sameEs, wit, Option.isSome_some, St.with, wantedD, Array.size, te, einl, inls, efr]
  have hp := patE_ok a1
  by_cases a2 : jobE j = 0
  rotate_left
  · have q2 : (jobE j != 0) = true := by simpa using a2
    rw [a1] at k1
    unfold encPat encJob at *
    simp (maxSteps := 1000000) (implicitDefEqProofs := false) only [Try.ntmps38, Try.results38, efc38, fc38, k1, k2, a1, a2, q2, bne_self_eq_false, ss, sd, evOp, evPlain, evVal, evMem, St.get, sliceOf, arrayOf, fieldsOf, normOf, norm, look, evVar, evFieldAddr, nameOf, St.alloc, St.drop, killOb, part, splice, depth, resultsV, ↓reduceIte, Nat.reduceBEq, Nat.reduceAdd, Nat.reduceSub, Nat.reduceMul, Nat.reduceEqDiff, Nat.reduceLeDiff, Nat.reduceLT, effOf, effMem, effVar, effLit, effMake, effApp, lend, evLit, evNil, freeze, evField, evIndexT, orNil, evSlice, placeOf, evMap, mapOf, keyOk, evFrame, closed, fixed, sameEs, wit, Option.isSome_some, St.with, wantedD, Array.size, te, einl, inls, efr]
  cases a3 : inB w 1 20 with
  | false =>
    rw [a3] at k3
    rw [a2] at k2
    rw [a1] at k1
    unfold encPat encJob at *
    simp (maxSteps := 1000000) (implicitDefEqProofs := false) only [Try.ntmps38, Try.results38, efc38, fc38, k1, k2, k3, a1, a2, a3, bne_self_eq_false, ss, sd, evOp, evPlain, evVal, evMem, St.get, sliceOf, arrayOf, fieldsOf, normOf, norm, look, evVar, evFieldAddr, nameOf, St.alloc, St.drop, killOb, part, splice, depth, resultsV, ↓reduceIte, Nat.reduceBEq, Nat.reduceAdd, Nat.reduceSub, Nat.reduceMul, Nat.reduceEqDiff, Nat.reduceLeDiff, Nat.reduceLT, effOf, effMem, effVar, effLit, effMake, effApp, lend, evLit, evNil, freeze, evField, evIndexT, orNil, evSlice, placeOf, evMap, mapOf, keyOk, evFrame, closed, fixed, sameEs, wit, Option.isSome_some, St.with, wantedD, Array.size, te, einl, inls, efr]
  | true =>
  have hw := inB_iff.1 a3
  obtain ⟨hj, hjo⟩ := jobE_zero a2
  have hjo := jobOk_iff.1 hjo
  have k5 := c84 j cuts hj (by omega)
  obtain ⟨u1, u2, _, _⟩ := leastW_spec hp
  obtain ⟨v1, v2, _, _⟩ := leastH_spec hp
  have p2 := hp.w2
  have p3 := hp.h2
  have rp := round_pos (S := leastS p) u1 v1
  unfold drumV drumC at k4
  rw [drumC_eq u1, if_pos a1] at k4
  have k6 := fun x y => c44 p x y (by omega)
  have y1 := Int.tmod_nonneg (leastW p : Nat) (show 0 ≤ w by omega)
  have y2 := Int.tmod_lt_of_pos w (show (0 : Int) < (leastW p : Nat) by omega)
  have y3 := Int.tmod_nonneg (roundN (leastW p) (leastS p) (leastH p) : Nat) (show 0 ≤ j.rep by omega)
  have y4 := Int.tmod_lt_of_pos j.rep (show (0 : Int) < (roundN (leastW p) (leastS p) (leastH p) : Nat) by omega)
  have rl := round_le (S := leastS p) (show 1 ≤ leastW p ∧ leastW p ≤ 144 by omega) (show 1 ≤ leastH p ∧ leastH p ≤ 144 by omega)
  rw [if_neg (by omega), if_neg (by omega), if_neg (by simp)]
  generalize roundN (leastW p) (leastS p) (leastH p) = R at *
  generalize leastW p = W at *
  have nR : ¬ (R : Int) = 0 := by omega
  have nW : ¬ (W : Int) = 0 := by omega
  generalize hm1 : w.tmod (W : Int) = m1 at *
  generalize hm2 : j.rep.tmod (R : Int) = m2 at *
  have w1 : IntKind.i64.wrap m1 = m1 := wrap_in (by omega)
  have w2 : IntKind.i64.wrap m2 = m2 := wrap_in (by omega)
  rw [a1] at k1
  rw [a2] at k2
  rw [a3] at k3
  by_cases a4 : m1 = 0
  rotate_left
  · have q4 : (m1 != 0) = true := by simpa using a4
    rw [if_pos (fun h => a4 h.1)]
    unfold encPat encJob at *
    simp (maxSteps := 1000000) (implicitDefEqProofs := false) only [Try.ntmps38, Try.results38, efc38, fc38, k1, k2, k3, k4, nW, hm1, w1, q4, bne_self_eq_false, ne_eq, not_false_eq_true, ss, sd, evOp, evPlain, evVal, evMem, St.get, sliceOf, arrayOf, fieldsOf, normOf, norm, look, evVar, evFieldAddr, nameOf, St.alloc, St.drop, killOb, part, splice, depth, resultsV, ↓reduceIte, Nat.reduceBEq, Nat.reduceAdd, Nat.reduceSub, Nat.reduceMul, Nat.reduceEqDiff, Nat.reduceLeDiff, Nat.reduceLT, effOf, effMem, effVar, effLit, effMake, effApp, lend, evLit, evNil, freeze, evField, evIndexT, orNil, evSlice, placeOf, evMap, mapOf, keyOk, evFrame, closed, fixed, sameEs, wit, Option.isSome_some, St.with, wantedD, Array.size, te, einl, inls, efr]
  have q4 : (m1 != 0) = false := by simpa using a4
  by_cases a5 : m2 = 0
  rotate_left
  · have q5 : (m2 != 0) = true := by simpa using a5
    rw [if_pos (fun h => a5 h.2)]
    unfold encPat encJob at *
    simp (maxSteps := 1000000) (implicitDefEqProofs := false) only [Try.ntmps38, Try.results38, efc38, fc38, k1, k2, k3, k4, nW, nR, hm1, hm2, w1, w2, q4, q5, bne_self_eq_false, ne_eq, not_false_eq_true, ss, sd, evOp, evPlain, evVal, evMem, St.get, sliceOf, arrayOf, fieldsOf, normOf, norm, look, evVar, evFieldAddr, nameOf, St.alloc, St.drop, killOb, part, splice, depth, resultsV, ↓reduceIte, Nat.reduceBEq, Nat.reduceAdd, Nat.reduceSub, Nat.reduceMul, Nat.reduceEqDiff, Nat.reduceLeDiff, Nat.reduceLT, effOf, effMem, effVar, effLit, effMake, effApp, lend, evLit, evNil, freeze, evField, evIndexT, orNil, evSlice, placeOf, evMap, mapOf, keyOk, evFrame, closed, fixed, sameEs, wit, Option.isSome_some, St.with, wantedD, Array.size, te, einl, inls, efr]
  have q5 : (m2 != 0) = false := by simpa using a5
  rw [if_neg (fun h => h ⟨a4, a5⟩)]
  by_cases a6 : checkL j cuts = 0
  rotate_left
  · have q6 : (checkL j cuts != 0) = true := by simpa using a6
    rw [if_pos a6]
    generalize checkL j cuts = e6 at *
    unfold encPat encJob at *
    simp (maxSteps := 1000000) (implicitDefEqProofs := false) only [Try.ntmps38, Try.results38, efc38, fc38, k1, k2, k3, k4, k5, nW, nR, hm1, hm2, w1, w2, q4, q5, q6, bne_self_eq_false, ne_eq, not_false_eq_true, ss, sd, evOp, evPlain, evVal, evMem, St.get, sliceOf, arrayOf, fieldsOf, normOf, norm, look, evVar, evFieldAddr, nameOf, St.alloc, St.drop, killOb, part, splice, depth, resultsV, ↓reduceIte, Nat.reduceBEq, Nat.reduceAdd, Nat.reduceSub, Nat.reduceMul, Nat.reduceEqDiff, Nat.reduceLeDiff, Nat.reduceLT, effOf, effMem, effVar, effLit, effMake, effApp, lend, evLit, evNil, freeze, evField, evIndexT, orNil, evSlice, placeOf, evMap, mapOf, keyOk, evFrame, closed, fixed, sameEs, wit, Option.isSome_some, St.with, wantedD, Array.size, te, einl, inls, efr]
  rw [if_neg (fun h => h a6)]
  have hfit : Fit j cuts := checkM_zero (by unfold checkM; rw [if_pos a2]; exact a6)
  rw [a6] at k5
  have h6 := hj.nss
  have h5 := hj.nrs
  generalize hR : laidGo p j w x y cuts 0 j.ss = Rz
  have k7 := fun s hs => c72g s w x y hs hx.2 hw
  unfold encPat encJob at *
  simp (maxSteps := 1000000) (implicitDefEqProofs := false) only [Try.ntmps38, Try.results38, efc38, fc38, k1, k2, k3, k4, k5, nW, nR, hm1, hm2, w1, w2, q4, q5, bne_self_eq_false, ne_eq, not_false_eq_true, List.length_map, ss, sd, evOp, evPlain, evVal, evMem, St.get, sliceOf, arrayOf, fieldsOf, normOf, norm, look, evVar, evFieldAddr, nameOf, St.alloc, St.drop, killOb, part, splice, depth, resultsV, ↓reduceIte, Nat.reduceBEq, Nat.reduceAdd, Nat.reduceSub, Nat.reduceMul, Nat.reduceEqDiff, Nat.reduceLeDiff, Nat.reduceLT, effOf, effMem, effVar, effLit, effMake, effApp, lend, evLit, evNil, freeze, evField, evIndexT, orNil, evSlice, placeOf, evMap, mapOf, keyOk, evFrame, closed, fixed, sameEs, wit, Option.isSome_some, St.with, wantedD, Array.size, te, einl, inls, efr]
  generalize hr : loopAt _ _ _ _ _ _ = r; revert r
  refine loop_list j.ss (fun pre _ => [(67, .int .i64 pre.length)]) (fun _ _ => []) (fun pre (_ : Unit) => laidGo p j w x y cuts pre.length (j.ss.drop pre.length) = Rz) () (by omega) (by simp (maxSteps := 1000000) (implicitDefEqProofs := false) only [ss, sd, evOp, evPlain, evVal, evMem, St.get, sliceOf, arrayOf, fieldsOf, normOf, norm, look, evVar, evFieldAddr, nameOf, St.alloc, St.drop, killOb, part, splice, depth, resultsV, ↓reduceIte, Nat.reduceBEq, Nat.reduceAdd, Nat.reduceSub, Nat.reduceMul, Nat.reduceEqDiff, Nat.reduceLeDiff, Nat.reduceLT, effOf, effMem, effVar, effLit, effMake, effApp, lend, evLit, evNil, freeze, evField, evIndexT, orNil, evSlice, placeOf, evMap, mapOf, keyOk, evFrame, closed, fixed, sameEs, wit, Option.isSome_some, St.with, wantedD, Array.size, te, einl, inls, efr]) hR (fun _ hI => ?_) (fun pre s post _ hp hI g1 g2 g3 g4 => ?_)
  · rw [List.drop_length] at hI
    have hI : Rz = .tup [.int .i64 0, .int .i64 5] := hI.symm
    simp (maxSteps := 1000000) (implicitDefEqProofs := false) only [Int.lt_irrefl, hI, Try.ntmps38, Try.results38, efc38, fc38, ss, sd, evOp, evPlain, evVal, evMem, St.get, sliceOf, arrayOf, fieldsOf, normOf, norm, look, evVar, evFieldAddr, nameOf, St.alloc, St.drop, killOb, part, splice, depth, resultsV, ↓reduceIte, Nat.reduceBEq, Nat.reduceAdd, Nat.reduceSub, Nat.reduceMul, Nat.reduceEqDiff, Nat.reduceLeDiff, Nat.reduceLT, effOf, effMem, effVar, effLit, effMake, effApp, lend, evLit, evNil, freeze, evField, evIndexT, orNil, evSlice, placeOf, evMap, mapOf, keyOk, evFrame, closed, fixed, sameEs, wit, Option.isSome_some, St.with, wantedD, Array.size, te, einl, inls, efr]
  · have dl : j.ss.drop pre.length = s :: post := by rw [hp, List.drop_left]
    have dl2 : j.ss.drop (pre ++ [s]).length = post := by rw [hp, show pre ++ s :: post = (pre ++ [s]) ++ post by simp, List.drop_left]
    rw [dl] at hI
    rw [dl2, List.length_append, List.length_singleton]
    unfold laidGo at hI
    have so := hjo.2.1 s (by rw [hp]; simp)
    have k8 := k7 s so
    have so := stripOk_iff.1 so
    cases hl : lies w x y s with
    | false =>
      rw [hl] at hI k8
      simp only [Bool.false_eq_true, if_false] at hI
      unfold encStrip at *
      simp (maxSteps := 1000000) (implicitDefEqProofs := false) only [g1, g2, g3, g4, k8, Int.natCast_nonneg, Int.toNat_natCast, List.getElem?_map, List.length_map, List.length_append, List.length_singleton, ss, sd, evOp, evPlain, evVal, evMem, St.get, sliceOf, arrayOf, fieldsOf, normOf, norm, look, evVar, evFieldAddr, nameOf, St.alloc, St.drop, killOb, part, splice, depth, resultsV, ↓reduceIte, Nat.reduceBEq, Nat.reduceAdd, Nat.reduceSub, Nat.reduceMul, Nat.reduceEqDiff, Nat.reduceLeDiff, Nat.reduceLT, effOf, effMem, effVar, effLit, effMake, effApp, lend, evLit, evNil, freeze, evField, evIndexT, orNil, evSlice, placeOf, evMap, mapOf, keyOk, evFrame, closed, fixed, sameEs, wit, Option.isSome_some, St.with, wantedD, Array.size, te, einl, inls, efr]
      first | exact ⟨(), rfl, hI⟩ | exact ⟨(), hI⟩
    | true =>
      have hl' := lies_iff.1 hl
      rw [hl] at hI k8
      rw [if_pos rfl] at hI
      generalize laidGo p j w x y cuts (pre.length + 1) post = N at *
      have hlt : (pre.length : Int) < 6 := by omega
      have w3 : IntKind.i64.wrap (x - s.x) = x - s.x := wrap_in (by omega)
      generalize hwx : x - s.x = dx at w3
      rw [← hwx] at w3
      have w3 : IntKind.i64.wrap (x - s.x) = dx := by rw [w3, hwx]
      have hin : ∀ c, laidCut p j s x y c = atV p dx (((rollOf j c).ph + c.a + y - s.a) % j.rep) := fun c => by unfold laidCut; rw [hwx]
      have hino : ∀ l, laidIn p j s x y pre.length N l = match l with | [] => N | c :: r => if c.s = (pre.length : Int) then laidCut p j s x y c else laidIn p j s x y pre.length N r := fun l => by cases l <;> rfl
      generalize hW : (fun l => laidIn p j s x y pre.length N l) = L at *
      have hW' : ∀ l, laidIn p j s x y pre.length N l = L l := fun l => by rw [← hW]
      simp only [hW', hin] at hino hI
      clear hW hW' hin
      obtain ⟨sx, sa, sb⟩ := s
      dsimp only at *
      unfold encStrip at *
      dsimp only at *
      simp (maxSteps := 1000000) (implicitDefEqProofs := false) only [g1, g2, g3, g4, k8, encStrip, Int.natCast_nonneg, Int.toNat_natCast, List.getElem?_map, List.length_map, List.length_append, List.length_singleton, ss, sd, evOp, evPlain, evVal, evMem, St.get, sliceOf, arrayOf, fieldsOf, normOf, norm, look, evVar, evFieldAddr, nameOf, St.alloc, St.drop, killOb, part, splice, depth, resultsV, ↓reduceIte, Nat.reduceBEq, Nat.reduceAdd, Nat.reduceSub, Nat.reduceMul, Nat.reduceEqDiff, Nat.reduceLeDiff, Nat.reduceLT, effOf, effMem, effVar, effLit, effMake, effApp, lend, evLit, evNil, freeze, evField, evIndexT, orNil, evSlice, placeOf, evMap, mapOf, keyOk, evFrame, closed, fixed, sameEs, wit, Option.isSome_some, St.with, wantedD, Array.size, te, einl, inls, efr]
      generalize hr : loopAt _ _ _ _ _ _ = r; revert r
      refine loop_list cuts (fun pr _ => [(80, .int .i64 pr.length)]) (fun _ _ => []) (fun pr (_ : Unit) => L (cuts.drop pr.length) = Rz) () (by omega) (by simp (maxSteps := 1000000) (implicitDefEqProofs := false) only [ss, sd, evOp, evPlain, evVal, evMem, St.get, sliceOf, arrayOf, fieldsOf, normOf, norm, look, evVar, evFieldAddr, nameOf, St.alloc, St.drop, killOb, part, splice, depth, resultsV, ↓reduceIte, Nat.reduceBEq, Nat.reduceAdd, Nat.reduceSub, Nat.reduceMul, Nat.reduceEqDiff, Nat.reduceLeDiff, Nat.reduceLT, effOf, effMem, effVar, effLit, effMake, effApp, lend, evLit, evNil, freeze, evField, evIndexT, orNil, evSlice, placeOf, evMap, mapOf, keyOk, evFrame, closed, fixed, sameEs, wit, Option.isSome_some, St.with, wantedD, Array.size, te, einl, inls, efr]) hI (fun _ hI => ?_) (fun pr c po _ hpp hI f1 f2 f3 f4 => ?_)
      · rw [List.drop_length, hino] at hI
        simp (maxSteps := 1000000) (implicitDefEqProofs := false) only [g4, Int.lt_irrefl, List.length_append, List.length_singleton, ss, sd, evOp, evPlain, evVal, evMem, St.get, sliceOf, arrayOf, fieldsOf, normOf, norm, look, evVar, evFieldAddr, nameOf, St.alloc, St.drop, killOb, part, splice, depth, resultsV, ↓reduceIte, Nat.reduceBEq, Nat.reduceAdd, Nat.reduceSub, Nat.reduceMul, Nat.reduceEqDiff, Nat.reduceLeDiff, Nat.reduceLT, effOf, effMem, effVar, effLit, effMake, effApp, lend, evLit, evNil, freeze, evField, evIndexT, orNil, evSlice, placeOf, evMap, mapOf, keyOk, evFrame, closed, fixed, sameEs, wit, Option.isSome_some, St.with, wantedD, Array.size, te, einl, inls, efr]
        first | exact ⟨(), rfl, hI⟩ | exact ⟨(), hI⟩
      · have dl3 : cuts.drop pr.length = c :: po := by rw [hpp, List.drop_left]
        have dl4 : cuts.drop (pr ++ [c]).length = po := by rw [hpp, show pr ++ c :: po = (pr ++ [c]) ++ po by simp, List.drop_left]
        rw [dl3, hino] at hI
        dsimp only at hI
        rw [dl4]
        have hg := hfit.good c (by rw [hpp]; simp)
        obtain ⟨m, hm⟩ : ∃ m : Nat, c.r = m := ⟨c.r.toNat, by omega⟩
        have gr := shade_get (j := j) hm (by omega)
        have ro := rollOk_iff.1 (hjo.2.2 _ (List.mem_of_getElem? gr))
        have mm : (m : Int) < j.rs.length := by omega
        generalize rollOf j c = ro' at *
        have e1 : IntKind.i64.wrap (ro'.ph + c.a) = ro'.ph + c.a := wrap_in (by omega)
        have e2 : IntKind.i64.wrap (ro'.ph + c.a + y) = ro'.ph + c.a + y := wrap_in (by omega)
        have e3 : IntKind.i64.wrap (ro'.ph + c.a + y - sa) = ro'.ph + c.a + y - sa := wrap_in (by omega)
        have e4 : (ro'.ph + c.a + y - sa).tmod j.rep = (ro'.ph + c.a + y - sa) % j.rep := Int.tmod_eq_emod_of_nonneg (by omega)
        have e5 : ¬ j.rep = 0 := by omega
        have b1 := Int.emod_nonneg (ro'.ph + c.a + y - sa) e5
        have b2 := Int.emod_lt_of_pos (ro'.ph + c.a + y - sa) (show 0 < j.rep by omega)
        have e6 : IntKind.i64.wrap ((ro'.ph + c.a + y - sa) % j.rep) = (ro'.ph + c.a + y - sa) % j.rep := wrap_in (by omega)
        obtain ⟨cs, cr, ca⟩ := c
        obtain ⟨rl', rp', rs'⟩ := ro'
        dsimp only at *
        subst hm
        by_cases hcs : cs = (pre.length : Int)
        · have q7 : (cs == (pre.length : Int)) = true := by simpa using hcs
          rw [if_pos hcs] at hI
          have k9 := k6 dx ((rp' + ca + y - sa) % j.rep)
          obtain ⟨r1, r2, hr⟩ := atV_form p dx ((rp' + ca + y - sa) % j.rep)
          rw [hr] at k9 hI
          subst hI
          simp (maxSteps := 1000000) (implicitDefEqProofs := false) only [f1, f2, f3, f4, q7, gr, mm, w3, e1, e2, e3, e4, e5, e6, k9, encCut, encRoll, evRegion_st hok, ne_eq, not_false_eq_true, Int.natCast_nonneg, Int.toNat_natCast, List.getElem?_map, List.length_map, Try.ntmps38, Try.results38, efc38, fc38, ss, sd, evOp, evPlain, evVal, evMem, St.get, sliceOf, arrayOf, fieldsOf, normOf, norm, look, evVar, evFieldAddr, nameOf, St.alloc, St.drop, killOb, part, splice, depth, resultsV, ↓reduceIte, Nat.reduceBEq, Nat.reduceAdd, Nat.reduceSub, Nat.reduceMul, Nat.reduceEqDiff, Nat.reduceLeDiff, Nat.reduceLT, effOf, effMem, effVar, effLit, effMake, effApp, lend, evLit, evNil, freeze, evField, evIndexT, orNil, evSlice, placeOf, evMap, mapOf, keyOk, evFrame, closed, fixed, sameEs, wit, Option.isSome_some, St.with, wantedD, Array.size, te, einl, inls, efr]
        · have q7 : (cs == (pre.length : Int)) = false := by simpa using hcs
          rw [if_neg hcs] at hI
          simp (maxSteps := 1000000) (implicitDefEqProofs := false) only [f1, f2, f3, f4, q7, encCut, Int.natCast_nonneg, Int.toNat_natCast, List.getElem?_map, List.length_map, ss, sd, evOp, evPlain, evVal, evMem, St.get, sliceOf, arrayOf, fieldsOf, normOf, norm, look, evVar, evFieldAddr, nameOf, St.alloc, St.drop, killOb, part, splice, depth, resultsV, ↓reduceIte, Nat.reduceBEq, Nat.reduceAdd, Nat.reduceSub, Nat.reduceMul, Nat.reduceEqDiff, Nat.reduceLeDiff, Nat.reduceLT, effOf, effMem, effVar, effLit, effMake, effApp, lend, evLit, evNil, freeze, evField, evIndexT, orNil, evSlice, placeOf, evMap, mapOf, keyOk, evFrame, closed, fixed, sameEs, wit, Option.isSome_some, St.with, wantedD, Array.size, te, einl, inls, efr]
          first | exact ⟨(), rfl, hI⟩ | exact ⟨(), hI⟩
end Go.AM.D
