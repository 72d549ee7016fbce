/-
TopBlends: small functions.
-/
import Derived.Test.YtkacpekakpbalaaELow
import Derived.Test.YtkacpekakpbalaaEWeakP
set_option linter.unusedVariables false
set_option linter.unusedSimpArgs false
set_option maxRecDepth 20000

namespace Go.AM.E
open Go Go.AM Go.Proofs

/-- Accepted amounts as fractions. -/
def zOf (a : Amts) (i : Nat) : Rat := ((a.x.getD i 0 : Int) : Rat) / (a.den : Rat)
theorem feas_ok {b : Blend} {a : Amts} (h : checkE b a = 0) : FeasR b (zOf a) ∧ ((costM b a.x : Int) : Rat) = (a.den : Rat) * costQ b (zOf a) := by
  obtain ⟨hv, hr, hb⟩ := checkE_zero h
  have ht : Times b a (zOf a) := times_self hr.1.1
  exact ⟨(broken_iff (fun i hi => by rw [getD_in (by have := hr.2.1; omega)]; exact (hr.2.2 _ (List.getElem_mem _)).1) ht).1 hb, cost_cast ht⟩
theorem least_le {b : Blend} {a x : Amts} {p : Pr} (ho : Opt b a p) (hx : checkE b x = 0) : costM b a.x * x.den ≤ costM b x.x * a.den := by
  obtain ⟨hf, hc⟩ := feas_ok hx
  have h := ho.least _ hf
  obtain ⟨_, hr, _⟩ := checkE_zero hx
  have hd := den_pos hr.1.1
  rw [← cast_le, Rat.intCast_mul, Rat.intCast_mul, hc]
  have := Rat.mul_le_mul_of_nonneg_right h (show (0 : Rat) ≤ (x.den : Rat) by grind)
  grind
set_option maxRecDepth 20000 in
set_option maxHeartbeats 4000000 in
theorem t44 (n d m e : Int) : (orcω E XL).call 44 [.agg [.int .i64 n, .int .i64 d], .agg [.int .i64 m, .int .i64 e]] = some (.bool ((n == m && d == e) && decide (0 < d))) := by
  refine call_of rfl fn44 rfl ?_
  by_cases h1 : n = m
  · subst h1
    by_cases h2 : d = e
    · subst h2
      by_cases h3 : 0 < d
      · simp (maxSteps := 1000000) (implicitDefEqProofs := false) only [Try.ntmps44, Try.results44, efc44, h3, beq_self_eq_true, Bool.and_self, Bool.true_and, ss, sd, evOp, evPlain, evVal, evMem, St.get, sliceOf, arrayOf, fieldsOf, normOf, norm, look, evVar, evFieldAddr, nameOf, St.alloc, St.drop, killOb, part, splice, depth, resultsV, ↓reduceIte, Nat.reduceBEq, Nat.reduceAdd, Nat.reduceSub, Nat.reduceMul, Nat.reduceEqDiff, Nat.reduceLeDiff, Nat.reduceLT, effOf, effMem, effVar, effLit, effMake, effApp, lend, evLit, evNil, freeze, evField, evIndexT, orNil, evSlice, placeOf, evMap, mapOf, keyOk, evFrame, closed, fixed, sameEs, wit, Option.isSome_some, St.with, wantedD, Array.size, te, einl, inls, efr]
      · simp (maxSteps := 1000000) (implicitDefEqProofs := false) only [Try.ntmps44, Try.results44, efc44, h3, beq_self_eq_true, Bool.and_self, Bool.true_and, ss, sd, evOp, evPlain, evVal, evMem, St.get, sliceOf, arrayOf, fieldsOf, normOf, norm, look, evVar, evFieldAddr, nameOf, St.alloc, St.drop, killOb, part, splice, depth, resultsV, ↓reduceIte, Nat.reduceBEq, Nat.reduceAdd, Nat.reduceSub, Nat.reduceMul, Nat.reduceEqDiff, Nat.reduceLeDiff, Nat.reduceLT, effOf, effMem, effVar, effLit, effMake, effApp, lend, evLit, evNil, freeze, evField, evIndexT, orNil, evSlice, placeOf, evMap, mapOf, keyOk, evFrame, closed, fixed, sameEs, wit, Option.isSome_some, St.with, wantedD, Array.size, te, einl, inls, efr]
    · have q1 : (d == e) = false := by simpa using h2
      simp (maxSteps := 1000000) (implicitDefEqProofs := false) only [Try.ntmps44, Try.results44, efc44, q1, beq_self_eq_true, Bool.true_and, Bool.false_and, ss, sd, evOp, evPlain, evVal, evMem, St.get, sliceOf, arrayOf, fieldsOf, normOf, norm, look, evVar, evFieldAddr, nameOf, St.alloc, St.drop, killOb, part, splice, depth, resultsV, ↓reduceIte, Nat.reduceBEq, Nat.reduceAdd, Nat.reduceSub, Nat.reduceMul, Nat.reduceEqDiff, Nat.reduceLeDiff, Nat.reduceLT, effOf, effMem, effVar, effLit, effMake, effApp, lend, evLit, evNil, freeze, evField, evIndexT, orNil, evSlice, placeOf, evMap, mapOf, keyOk, evFrame, closed, fixed, sameEs, wit, Option.isSome_some, St.with, wantedD, Array.size, te, einl, inls, efr]
  · have q1 : (n == m) = false := by simpa using h1
    simp (maxSteps := 1000000) (implicitDefEqProofs := false) only [Try.ntmps44, Try.results44, efc44, q1, Bool.true_and, Bool.false_and, ss, sd, evOp, evPlain, evVal, evMem, St.get, sliceOf, arrayOf, fieldsOf, normOf, norm, look, evVar, evFieldAddr, nameOf, St.alloc, St.drop, killOb, part, splice, depth, resultsV, ↓reduceIte, Nat.reduceBEq, Nat.reduceAdd, Nat.reduceSub, Nat.reduceMul, Nat.reduceEqDiff, Nat.reduceLeDiff, Nat.reduceLT, effOf, effMem, effVar, effLit, effMake, effApp, lend, evLit, evNil, freeze, evField, evIndexT, orNil, evSlice, placeOf, evMap, mapOf, keyOk, evFrame, closed, fixed, sameEs, wit, Option.isSome_some, St.with, wantedD, Array.size, te, einl, inls, efr]
set_option maxRecDepth 20000 in
set_option maxHeartbeats 8000000 in
theorem t45 (b : Blend) (x : Amts) (n d : Int) (h : Rat' (n, d)) (ac : Bool) (hac : ac = true → (costR b x).2.2 = 0 → Rat' ((costR b x).1, (costR b x).2.1) ∧ n * (costR b x).2.1 ≤ (costR b x).1 * d) : (orcω E XL).call 45 [encBlend b, encAmts x, .bool ac, .agg [.int .i64 n, .int .i64 d]] = some (.bool true) := by
  refine call_of rfl fn45 rfl ?_
  have k1 := l28 b x
  have k3 := l33
  generalize costR b x = cr at *
  obtain ⟨n', d', e⟩ := cr
  obtain ⟨tot, cs, lo, up⟩ := b
  obtain ⟨xd, x⟩ := x
  simp only [encBlend, encAmts, encR] at k1 ⊢
  cases ac with
  | false => simp (maxSteps := 1000000) (implicitDefEqProofs := false) only [Try.ntmps45, Try.results45, efc45, k1, Bool.not_false, ss, sd, evOp, evPlain, evVal, evMem, St.get, sliceOf, arrayOf, fieldsOf, normOf, norm, look, evVar, evFieldAddr, nameOf, St.alloc, St.drop, killOb, part, splice, depth, resultsV, ↓reduceIte, Nat.reduceBEq, Nat.reduceAdd, Nat.reduceSub, Nat.reduceMul, Nat.reduceEqDiff, Nat.reduceLeDiff, Nat.reduceLT, effOf, effMem, effVar, effLit, effMake, effApp, lend, evLit, evNil, freeze, evField, evIndexT, orNil, evSlice, placeOf, evMap, mapOf, keyOk, evFrame, closed, fixed, sameEs, wit, Option.isSome_some, St.with, wantedD, Array.size, te, einl, inls, efr]
  | true =>
    by_cases he : e = 0
    rotate_left
    · have q1 : (e != 0) = true := by simpa using he
      simp (maxSteps := 1000000) (implicitDefEqProofs := false) only [Try.ntmps45, Try.results45, efc45, k1, q1, Bool.not_true, ss, sd, evOp, evPlain, evVal, evMem, St.get, sliceOf, arrayOf, fieldsOf, normOf, norm, look, evVar, evFieldAddr, nameOf, St.alloc, St.drop, killOb, part, splice, depth, resultsV, ↓reduceIte, Nat.reduceBEq, Nat.reduceAdd, Nat.reduceSub, Nat.reduceMul, Nat.reduceEqDiff, Nat.reduceLeDiff, Nat.reduceLT, effOf, effMem, effVar, effLit, effMake, effApp, lend, evLit, evNil, freeze, evField, evIndexT, orNil, evSlice, placeOf, evMap, mapOf, keyOk, evFrame, closed, fixed, sameEs, wit, Option.isSome_some, St.with, wantedD, Array.size, te, einl, inls, efr]
    · subst he
      obtain ⟨h1, h2⟩ := hac rfl rfl
      dsimp only at h1 h2
      have k4 := k3 n' d' n d h1 h
      have hc : (0 : Int) ≤ cmpI (n' * d) (n * d') := cmpI_pos.2 h2
      simp (maxSteps := 1000000) (implicitDefEqProofs := false) only [Try.ntmps45, Try.results45, efc45, k1, k4, hc, bne_self_eq_false, beq_self_eq_true, Bool.not_true, ss, sd, evOp, evPlain, evVal, evMem, St.get, sliceOf, arrayOf, fieldsOf, normOf, norm, look, evVar, evFieldAddr, nameOf, St.alloc, St.drop, killOb, part, splice, depth, resultsV, ↓reduceIte, Nat.reduceBEq, Nat.reduceAdd, Nat.reduceSub, Nat.reduceMul, Nat.reduceEqDiff, Nat.reduceLeDiff, Nat.reduceLT, effOf, effMem, effVar, effLit, effMake, effApp, lend, evLit, evNil, freeze, evField, evIndexT, orNil, evSlice, placeOf, evMap, mapOf, keyOk, evFrame, closed, fixed, sameEs, wit, Option.isSome_some, St.with, wantedD, Array.size, te, einl, inls, efr]
set_option maxRecDepth 20000 in
set_option maxHeartbeats 8000000 in
theorem t46 (b : Blend) (p : Pr) (n d : Int) (h : Rat' (n, d)) (hac : (boundR b p).2.2 = 0 → Rat' ((boundR b p).1, (boundR b p).2.1) ∧ (boundR b p).1 * d ≤ n * (boundR b p).2.1) : (orcω E XL).call 46 [encBlend b, encPr p, .agg [.int .i64 n, .int .i64 d]] = some (.bool true) := by
  refine call_of rfl fn46 rfl ?_
  have k1 := l29 b p
  have k3 := l33
  generalize boundR b p = cr at *
  obtain ⟨n', d', e⟩ := cr
  obtain ⟨tot, cs, lo, up⟩ := b
  obtain ⟨pd, y, u, v, w⟩ := p
  simp only [encBlend, encPr, encR] at k1 ⊢
  by_cases he : e = 0
  rotate_left
  · have q1 : (e != 0) = true := by simpa using he
    simp (maxSteps := 1000000) (implicitDefEqProofs := false) only [Try.ntmps46, Try.results46, efc46, k1, q1, ss, sd, evOp, evPlain, evVal, evMem, St.get, sliceOf, arrayOf, fieldsOf, normOf, norm, look, evVar, evFieldAddr, nameOf, St.alloc, St.drop, killOb, part, splice, depth, resultsV, ↓reduceIte, Nat.reduceBEq, Nat.reduceAdd, Nat.reduceSub, Nat.reduceMul, Nat.reduceEqDiff, Nat.reduceLeDiff, Nat.reduceLT, effOf, effMem, effVar, effLit, effMake, effApp, lend, evLit, evNil, freeze, evField, evIndexT, orNil, evSlice, placeOf, evMap, mapOf, keyOk, evFrame, closed, fixed, sameEs, wit, Option.isSome_some, St.with, wantedD, Array.size, te, einl, inls, efr]
  · subst he
    obtain ⟨h1, h2⟩ := hac rfl
    dsimp only at h1 h2
    have k4 := k3 n' d' n d h1 h
    have hc : cmpI (n' * d) (n * d') ≤ 0 := cmpI_neg.2 h2
    simp (maxSteps := 1000000) (implicitDefEqProofs := false) only [Try.ntmps46, Try.results46, efc46, k1, k4, hc, bne_self_eq_false, beq_self_eq_true, ss, sd, evOp, evPlain, evVal, evMem, St.get, sliceOf, arrayOf, fieldsOf, normOf, norm, look, evVar, evFieldAddr, nameOf, St.alloc, St.drop, killOb, part, splice, depth, resultsV, ↓reduceIte, Nat.reduceBEq, Nat.reduceAdd, Nat.reduceSub, Nat.reduceMul, Nat.reduceEqDiff, Nat.reduceLeDiff, Nat.reduceLT, effOf, effMem, effVar, effLit, effMake, effApp, lend, evLit, evNil, freeze, evField, evIndexT, orNil, evSlice, placeOf, evMap, mapOf, keyOk, evFrame, closed, fixed, sameEs, wit, Option.isSome_some, St.with, wantedD, Array.size, te, einl, inls, efr]
end Go.AM.E
