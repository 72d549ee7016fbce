/- A part of the proof: the texts DPatB, DPatC, DPatD, DPatE, one after another. No condition. -/
import Derived.Test.YtejjeckiplihbaaDPat
set_option linter.unusedSimpArgs false
set_option maxRecDepth 20000

section
/-
Patterns: the colour of a cell, and what is a valid pattern.
-/
namespace Go.AM.D
open Go Go.AM Go.Proofs

theorem okT126 : okCode (Try.f126.body.getD .skip) = true := by decide +kernel
theorem c126 (p : Pat) (x y : Int) (hp : PatOk p) (hx : -1000000 ≤ x ∧ x ≤ 1000000) (hy : -100000 ≤ y ∧ y ≤ 100000) :
    (orcω E X0).call 126 [encPat p, .int .i64 x, .int .i64 y] = some (.tup [.int .i64 ((x - y / p.h * p.s) % p.w), .int .i64 (y % p.h)]) := by
  refine call_of rfl fn126 rfl ?_
  have hok := okT126
  simp only [Try.f126, Option.getD_some, okCode, Bool.and_eq_true, Bool.and_true, Bool.true_and] at hok
  have q := hp.w1
  have q2 := hp.w2
  have q3 := hp.h1
  have q4 := hp.h2
  have q5 := hp.s1
  have q6 := hp.s2
  have b := div_in (B := 100000) q3 hy.1 hy.2 (by omega)
  have b2 := mul_in (B := 143) b.1 b.2 q5 (by omega) (by omega)
  have k1 := c142 y p.h ⟨q3, q4⟩ (by omega)
  have k2 := c143 (x - y / p.h * p.s) p.w ⟨q, q2⟩ (by omega)
  have e1 := Int.mul_ediv_add_emod y p.h
  rw [Int.mul_comm] at e1
  have e2 := Int.emod_nonneg y (show p.h ≠ 0 by omega)
  have e3 := Int.emod_lt_of_pos y (show 0 < p.h by omega)
  have w1 : IntKind.i64.wrap (y / p.h * p.s) = y / p.h * p.s := wrap_in (by omega)
  have w2 : IntKind.i64.wrap (x - y / p.h * p.s) = x - y / p.h * p.s := wrap_in (by omega)
  have w3 : IntKind.i64.wrap (y / p.h * p.h) = y / p.h * p.h := wrap_in (by omega)
  have w4 : IntKind.i64.wrap (y - y / p.h * p.h) = y % p.h := by rw [show y - y / p.h * p.h = y % p.h by omega, wrap_in (by omega)]
  unfold encPat
  simp (maxSteps := 1000000) (implicitDefEqProofs := false) only [Try.ntmps126, Try.results126, efc126, evRegion_st hok, k1, k2, w1, w2, w3, w4, ss, sd, evOp, evPlain, evVal, evMem, St.get, sliceOf, arrayOf, fieldsOf, normOf, norm, look, evVar, evFieldAddr, nameOf, St.alloc, St.drop, killOb, part, splice, depth, resultsV, ↓reduceIte, Nat.reduceBEq, Nat.reduceAdd, Nat.reduceSub, Nat.reduceMul, Nat.reduceEqDiff, Nat.reduceLeDiff, Nat.reduceLT, effOf, effMem, effVar, effLit, effMake, effApp, lend, evLit, evNil, freeze, evField, evIndexT, orNil, evSlice, placeOf, evMap, mapOf, keyOk, evFrame, closed, fixed, sameEs, wit, Option.isSome_some, St.with, wantedD, Array.size, te, einl, inls, efr]

theorem c93 (p : Pat) (x y : Int) (hp : PatOk p) (hx : -1000000 ≤ x ∧ x ≤ 1000000) (hy : -100000 ≤ y ∧ y ≤ 100000) :
    (orcω E X0).call 93 [encPat p, .int .i64 x, .int .i64 y] = some (.int .i64 (colP p x y)) := by
  refine call_of rfl fn93 rfl ?_
  have k1 := c126 p x y hp hx hy
  have q := hp.w1
  have q3 := hp.h1
  have e2 := Int.emod_nonneg y (show p.h ≠ 0 by omega)
  have e3 := Int.emod_lt_of_pos y (show 0 < p.h by omega)
  have e4 := Int.emod_nonneg (x - y / p.h * p.s) (show p.w ≠ 0 by omega)
  have e5 := Int.emod_lt_of_pos (x - y / p.h * p.s) (show 0 < p.w by omega)
  have pl := place_in e2 e3 e4 e5
  have ha := hp.a
  have hl := hp.len
  unfold colP
  generalize (x - y / p.h * p.s) % p.w = a at *
  generalize y % p.h = b at *
  have w1 : IntKind.i64.wrap (b * p.w) = b * p.w := wrap_in (by omega)
  have w2 : IntKind.i64.wrap (b * p.w + a) = b * p.w + a := wrap_in (by omega)
  have g1 : 0 ≤ b * p.w + a := by omega
  have g2 : (b * p.w + a).toNat < p.cs.length := by omega
  have g4 : b * p.w + a < (p.cs.length : Int) := by omega
  have g3 : p.cs[(b * p.w + a).toNat]? = some (p.cs.getD (b * p.w + a).toNat 0) := by
    rw [List.getD_eq_getElem?_getD, List.getElem?_eq_getElem g2]; rfl
  generalize p.cs.getD (b * p.w + a).toNat 0 = c at *
  unfold encPat at *
  simp (maxSteps := 1000000) (implicitDefEqProofs := false) only [Try.ntmps93, Try.results93, efc93, k1, w1, w2, g1, g3, g4, List.getElem?_map, List.length_map, ss, sd, evOp, evPlain, evVal, evMem, St.get, sliceOf, arrayOf, fieldsOf, normOf, norm, look, evVar, evFieldAddr, nameOf, St.alloc, St.drop, killOb, part, splice, depth, resultsV, ↓reduceIte, Nat.reduceBEq, Nat.reduceAdd, Nat.reduceSub, Nat.reduceMul, Nat.reduceEqDiff, Nat.reduceLeDiff, Nat.reduceLT, effOf, effMem, effVar, effLit, effMake, effApp, lend, evLit, evNil, freeze, evField, evIndexT, orNil, evSlice, placeOf, evMap, mapOf, keyOk, evFrame, closed, fixed, sameEs, wit, Option.isSome_some, St.with, wantedD, Array.size, te, einl, inls, efr]
theorem c136 (p : Pat) (x y : Int) (hp : PatOk p) (hx : -1000000 ≤ x ∧ x ≤ 1000000) (hy : -100000 ≤ y ∧ y ≤ 100000) :
    (orcω E X0).call 136 [.int .i64 x, .int .i64 y, .fp false [.int .i64 p.w, .int .i64 p.s, .int .i64 p.h, .sl false (p.cs.map fun c => V.int .i64 c)] 0] = some (.int .i64 (colP p x y)) := by
  refine call_of rfl fn136 rfl ?_
  have k1 := c93 p x y hp hx hy
  unfold encPat at k1
  simp (maxSteps := 1000000) (implicitDefEqProofs := false) only [Try.ntmps136, Try.results136, efc136, k1, ss, sd, evOp, evPlain, evVal, evMem, St.get, sliceOf, arrayOf, fieldsOf, normOf, norm, look, evVar, evFieldAddr, nameOf, St.alloc, St.drop, killOb, part, splice, depth, resultsV, ↓reduceIte, Nat.reduceBEq, Nat.reduceAdd, Nat.reduceSub, Nat.reduceMul, Nat.reduceEqDiff, Nat.reduceLeDiff, Nat.reduceLT, effOf, effMem, effVar, effLit, effMake, effApp, lend, evLit, evNil, freeze, evField, evIndexT, orNil, evSlice, placeOf, evMap, mapOf, keyOk, evFrame, closed, fixed, sameEs, wit, Option.isSome_some, St.with, wantedD, Array.size, te, einl, inls, efr]

theorem okT122 : okCode (Try.f122.body.getD .skip) = true := by decide +kernel
theorem c122 (p : Pat) (x y : Int) (hp : PatOk p) (hx : -1000000 ≤ x ∧ x ≤ 1000000) (hy : -100000 ≤ y ∧ y ≤ 100000) :
    (orcω E X0).call 122 [encPat p, .int .i64 x, .int .i64 y] = some (.int .i64 (colP p x y)) := by
  refine call_of rfl fn122 rfl ?_
  have hok := okT122
  simp only [Try.f122, Option.getD_some, okCode, Bool.and_eq_true, Bool.and_true, Bool.true_and] at hok
  have q := hp.w1
  have q2 := hp.w2
  have q3 := hp.h1
  have q4 := hp.h2
  have q5 := hp.s1
  have q6 := hp.s2
  have b0 := div_in (B := 100000) q3 hy.1 hy.2 (by omega)
  have b2 := mul_in (B := 143) b0.1 b0.2 q5 (by omega) (by omega)
  have k1 := c141 y p.h ⟨q3, q4⟩
  have k2 := c141 (x - y / p.h * p.s) p.w ⟨q, q2⟩
  have e1 := Int.mul_ediv_add_emod y p.h
  have e2 := Int.emod_nonneg y (show p.h ≠ 0 by omega)
  have e3 := Int.emod_lt_of_pos y (show 0 < p.h by omega)
  have e4 := Int.emod_nonneg (x - y / p.h * p.s) (show p.w ≠ 0 by omega)
  have e5 := Int.emod_lt_of_pos (x - y / p.h * p.s) (show 0 < p.w by omega)
  have e6 : (y - y % p.h).tdiv p.h = y / p.h := by
    rw [show y - y % p.h = p.h * (y / p.h) by omega]
    exact Int.mul_tdiv_cancel_left _ (by omega)
  have pl := place_in e2 e3 e4 e5
  have ha := hp.a
  have hl := hp.len
  have w0 : IntKind.i64.wrap (y - y % p.h) = y - y % p.h := wrap_in (by omega)
  have w00 : IntKind.i64.wrap ((y - y % p.h).tdiv p.h) = y / p.h := by rw [e6, wrap_in (by omega)]
  have w3 : IntKind.i64.wrap (y / p.h * p.s) = y / p.h * p.s := wrap_in (by omega)
  have w4 : IntKind.i64.wrap (x - y / p.h * p.s) = x - y / p.h * p.s := wrap_in (by omega)
  have z : (p.h == 0) = false := by rw [Bool.eq_false_iff]; intro h; have := beq_iff_eq.1 h; omega
  have z2 : ¬ p.h = 0 := by omega
  unfold colP
  generalize (x - y / p.h * p.s) % p.w = a at *
  generalize hb : y % p.h = b at *
  have w1 : IntKind.i64.wrap (b * p.w) = b * p.w := wrap_in (by omega)
  have w2 : IntKind.i64.wrap (b * p.w + a) = b * p.w + a := wrap_in (by omega)
  have g1 : 0 ≤ b * p.w + a := by omega
  have g2 : (b * p.w + a).toNat < p.cs.length := by omega
  have g4 : b * p.w + a < (p.cs.length : Int) := by omega
  have g3 : p.cs[(b * p.w + a).toNat]? = some (p.cs.getD (b * p.w + a).toNat 0) := by
    rw [List.getD_eq_getElem?_getD, List.getElem?_eq_getElem g2]; rfl
  generalize p.cs.getD (b * p.w + a).toNat 0 = c at *
  unfold encPat at *
  simp (maxSteps := 1000000) (implicitDefEqProofs := false) only [Try.ntmps122, Try.results122, efc122, evRegion_st hok, k1, k2, z, z2, ne_eq, not_false_eq_true, w0, w00, w1, w2, w3, w4, g1, g3, g4, List.getElem?_map, List.length_map, ss, sd, evOp, evPlain, evVal, evMem, St.get, sliceOf, arrayOf, fieldsOf, normOf, norm, look, evVar, evFieldAddr, nameOf, St.alloc, St.drop, killOb, part, splice, depth, resultsV, ↓reduceIte, Nat.reduceBEq, Nat.reduceAdd, Nat.reduceSub, Nat.reduceMul, Nat.reduceEqDiff, Nat.reduceLeDiff, Nat.reduceLT, effOf, effMem, effVar, effLit, effMake, effApp, lend, evLit, evNil, freeze, evField, evIndexT, orNil, evSlice, placeOf, evMap, mapOf, keyOk, evFrame, closed, fixed, sameEs, wit, Option.isSome_some, St.with, wantedD, Array.size, te, einl, inls, efr]
end Go.AM.D
end

section
/-
Patterns: Validate of both sides.
-/
namespace Go.AM.D
open Go Go.AM Go.Proofs

def rangeOk (p : Pat) : Prop := 1 ≤ p.w ∧ p.w ≤ 144 ∧ 1 ≤ p.h ∧ p.h ≤ 144 ∧ 0 ≤ p.s ∧ p.s < p.w
theorem range_iff {p : Pat} : (inB p.w 1 144 && inB p.h 1 144 && inB p.s 0 (p.w - 1)) = true ↔ rangeOk p := by
  simp only [Bool.and_eq_true, inB_iff, rangeOk]
  omega
theorem patE_bad {p : Pat} (h : ¬ rangeOk p) : patE p = 1 := by
  unfold patE
  rw [if_pos (Bool.eq_false_iff.2 fun hh => h (range_iff.1 hh))]
theorem patE_big {p : Pat} (h : rangeOk p) (h2 : 144 < p.w * p.h) : patE p = 4 := by
  unfold patE
  rw [if_neg (by rw [range_iff.2 h]; decide), if_pos h2]
theorem patE_len {p : Pat} (h : rangeOk p) (h2 : ¬ 144 < p.w * p.h) (h3 : ¬ (p.cs.length : Int) = p.w * p.h) : patE p = 1 := by
  unfold patE
  rw [if_neg (by rw [range_iff.2 h]; decide), if_neg h2, if_pos (by rw [show ((p.cs.length : Int) == p.w * p.h) = false by simpa using h3]; rfl)]
theorem patE_hue {p : Pat} (h : rangeOk p) (h2 : ¬ 144 < p.w * p.h) (h4 : p.cs.all hueOk = false) : patE p = 1 := by
  unfold patE
  rw [if_neg (by rw [range_iff.2 h]; decide), if_neg h2, if_pos (by rw [h4, Bool.and_false])]
theorem patE_fine {p : Pat} (h : rangeOk p) (h2 : ¬ 144 < p.w * p.h) (h3 : (p.cs.length : Int) = p.w * p.h) (h4 : p.cs.all hueOk = true) : patE p = 0 := by
  unfold patE
  rw [if_neg (by rw [range_iff.2 h]; decide), if_neg h2, if_neg (by rw [h4, show ((p.cs.length : Int) == p.w * p.h) = true by simpa using h3]; decide)]

set_option maxHeartbeats 4000000 in
theorem c82 (p : Pat) (hn : p.cs.length ≤ 1000000000) : (orcω E X0).call 82 [encPat p] = some (.int .i64 (patE p)) := by
  refine call_of rfl fn82 rfl ?_
  have k1 := c112 113 (fun x => !hueOk x) rfl c113 p.cs hn
  have e0 : p.cs.any (fun x => !hueOk x) = !p.cs.all hueOk := by rw [List.not_all_eq_any_not]
  rw [e0] at k1
  have f1 := patE_bad (p := p)
  have f2 := patE_big (p := p)
  have f3 := patE_len (p := p)
  have f4 := patE_hue (p := p)
  have f5 := patE_fine (p := p)
  unfold rangeOk at *
  unfold encPat
  generalize patE p = r at *
  by_cases a1 : p.w < 1
  · rw [f1 (by omega)]
    simp (maxSteps := 1000000) (implicitDefEqProofs := false) only [Try.ntmps82, Try.results82, efc82, a1, ss, sd, evOp, evPlain, evVal, evMem, St.get, sliceOf, arrayOf, fieldsOf, normOf, norm, look, evVar, evFieldAddr, nameOf, St.alloc, St.drop, killOb, part, splice, depth, resultsV, ↓reduceIte, Nat.reduceBEq, Nat.reduceAdd, Nat.reduceSub, Nat.reduceMul, Nat.reduceEqDiff, Nat.reduceLeDiff, Nat.reduceLT, effOf, effMem, effVar, effLit, effMake, effApp, lend, evLit, evNil, freeze, evField, evIndexT, orNil, evSlice, placeOf, evMap, mapOf, keyOk, evFrame, closed, fixed, sameEs, wit, Option.isSome_some, St.with, wantedD, Array.size, te, einl, inls, efr]
  by_cases a2 : 144 < p.w
  · rw [f1 (by omega)]
    simp (maxSteps := 1000000) (implicitDefEqProofs := false) only [Try.ntmps82, Try.results82, efc82, a1, a2, ss, sd, evOp, evPlain, evVal, evMem, St.get, sliceOf, arrayOf, fieldsOf, normOf, norm, look, evVar, evFieldAddr, nameOf, St.alloc, St.drop, killOb, part, splice, depth, resultsV, ↓reduceIte, Nat.reduceBEq, Nat.reduceAdd, Nat.reduceSub, Nat.reduceMul, Nat.reduceEqDiff, Nat.reduceLeDiff, Nat.reduceLT, effOf, effMem, effVar, effLit, effMake, effApp, lend, evLit, evNil, freeze, evField, evIndexT, orNil, evSlice, placeOf, evMap, mapOf, keyOk, evFrame, closed, fixed, sameEs, wit, Option.isSome_some, St.with, wantedD, Array.size, te, einl, inls, efr]
  by_cases a3 : p.h < 1
  · rw [f1 (by omega)]
    simp (maxSteps := 1000000) (implicitDefEqProofs := false) only [Try.ntmps82, Try.results82, efc82, a1, a2, a3, ss, sd, evOp, evPlain, evVal, evMem, St.get, sliceOf, arrayOf, fieldsOf, normOf, norm, look, evVar, evFieldAddr, nameOf, St.alloc, St.drop, killOb, part, splice, depth, resultsV, ↓reduceIte, Nat.reduceBEq, Nat.reduceAdd, Nat.reduceSub, Nat.reduceMul, Nat.reduceEqDiff, Nat.reduceLeDiff, Nat.reduceLT, effOf, effMem, effVar, effLit, effMake, effApp, lend, evLit, evNil, freeze, evField, evIndexT, orNil, evSlice, placeOf, evMap, mapOf, keyOk, evFrame, closed, fixed, sameEs, wit, Option.isSome_some, St.with, wantedD, Array.size, te, einl, inls, efr]
  by_cases a4 : 144 < p.h
  · rw [f1 (by omega)]
    simp (maxSteps := 1000000) (implicitDefEqProofs := false) only [Try.ntmps82, Try.results82, efc82, a1, a2, a3, a4, ss, sd, evOp, evPlain, evVal, evMem, St.get, sliceOf, arrayOf, fieldsOf, normOf, norm, look, evVar, evFieldAddr, nameOf, St.alloc, St.drop, killOb, part, splice, depth, resultsV, ↓reduceIte, Nat.reduceBEq, Nat.reduceAdd, Nat.reduceSub, Nat.reduceMul, Nat.reduceEqDiff, Nat.reduceLeDiff, Nat.reduceLT, effOf, effMem, effVar, effLit, effMake, effApp, lend, evLit, evNil, freeze, evField, evIndexT, orNil, evSlice, placeOf, evMap, mapOf, keyOk, evFrame, closed, fixed, sameEs, wit, Option.isSome_some, St.with, wantedD, Array.size, te, einl, inls, efr]
  by_cases a5 : p.s < 0
  · rw [f1 (by omega)]
    simp (maxSteps := 1000000) (implicitDefEqProofs := false) only [Try.ntmps82, Try.results82, efc82, a1, a2, a3, a4, a5, ss, sd, evOp, evPlain, evVal, evMem, St.get, sliceOf, arrayOf, fieldsOf, normOf, norm, look, evVar, evFieldAddr, nameOf, St.alloc, St.drop, killOb, part, splice, depth, resultsV, ↓reduceIte, Nat.reduceBEq, Nat.reduceAdd, Nat.reduceSub, Nat.reduceMul, Nat.reduceEqDiff, Nat.reduceLeDiff, Nat.reduceLT, effOf, effMem, effVar, effLit, effMake, effApp, lend, evLit, evNil, freeze, evField, evIndexT, orNil, evSlice, placeOf, evMap, mapOf, keyOk, evFrame, closed, fixed, sameEs, wit, Option.isSome_some, St.with, wantedD, Array.size, te, einl, inls, efr]
  by_cases a6 : p.w ≤ p.s
  · rw [f1 (by omega)]
    simp (maxSteps := 1000000) (implicitDefEqProofs := false) only [Try.ntmps82, Try.results82, efc82, a1, a2, a3, a4, a5, a6, ss, sd, evOp, evPlain, evVal, evMem, St.get, sliceOf, arrayOf, fieldsOf, normOf, norm, look, evVar, evFieldAddr, nameOf, St.alloc, St.drop, killOb, part, splice, depth, resultsV, ↓reduceIte, Nat.reduceBEq, Nat.reduceAdd, Nat.reduceSub, Nat.reduceMul, Nat.reduceEqDiff, Nat.reduceLeDiff, Nat.reduceLT, effOf, effMem, effVar, effLit, effMake, effApp, lend, evLit, evNil, freeze, evField, evIndexT, orNil, evSlice, placeOf, evMap, mapOf, keyOk, evFrame, closed, fixed, sameEs, wit, Option.isSome_some, St.with, wantedD, Array.size, te, einl, inls, efr]
  have ok : 1 ≤ p.w ∧ p.w ≤ 144 ∧ 1 ≤ p.h ∧ p.h ≤ 144 ∧ 0 ≤ p.s ∧ p.s < p.w := by omega
  have m := mul_in (a := p.w) (b := p.h) (A := 144) (B := 144) (by omega) (by omega) (by omega) (by omega) (by omega)
  have w1 : IntKind.i64.wrap (p.w * p.h) = p.w * p.h := wrap_in (by omega)
  by_cases a7 : 144 < p.w * p.h
  · rw [f2 ok a7]
    simp (maxSteps := 1000000) (implicitDefEqProofs := false) only [Try.ntmps82, Try.results82, efc82, a1, a2, a3, a4, a5, a6, w1, a7, ss, sd, evOp, evPlain, evVal, evMem, St.get, sliceOf, arrayOf, fieldsOf, normOf, norm, look, evVar, evFieldAddr, nameOf, St.alloc, St.drop, killOb, part, splice, depth, resultsV, ↓reduceIte, Nat.reduceBEq, Nat.reduceAdd, Nat.reduceSub, Nat.reduceMul, Nat.reduceEqDiff, Nat.reduceLeDiff, Nat.reduceLT, effOf, effMem, effVar, effLit, effMake, effApp, lend, evLit, evNil, freeze, evField, evIndexT, orNil, evSlice, placeOf, evMap, mapOf, keyOk, evFrame, closed, fixed, sameEs, wit, Option.isSome_some, St.with, wantedD, Array.size, te, einl, inls, efr]
  by_cases a8 : (p.cs.length : Int) = p.w * p.h
  · have q : ((p.cs.length : Int) != p.w * p.h) = false := by simpa using a8
    cases a9 : p.cs.all hueOk with
    | true =>
      rw [f5 ok a7 a8 a9]
      rw [a9] at k1
      simp (maxSteps := 1000000) (implicitDefEqProofs := false) only [Try.ntmps82, Try.results82, efc82, a1, a2, a3, a4, a5, a6, w1, a7, q, k1, List.length_map, ss, sd, evOp, evPlain, evVal, evMem, St.get, sliceOf, arrayOf, fieldsOf, normOf, norm, look, evVar, evFieldAddr, nameOf, St.alloc, St.drop, killOb, part, splice, depth, resultsV, ↓reduceIte, Nat.reduceBEq, Nat.reduceAdd, Nat.reduceSub, Nat.reduceMul, Nat.reduceEqDiff, Nat.reduceLeDiff, Nat.reduceLT, effOf, effMem, effVar, effLit, effMake, effApp, lend, evLit, evNil, freeze, evField, evIndexT, orNil, evSlice, placeOf, evMap, mapOf, keyOk, evFrame, closed, fixed, sameEs, wit, Option.isSome_some, St.with, wantedD, Array.size, te, einl, inls, efr]
    | false =>
      rw [f4 ok a7 a9]
      rw [a9] at k1
      simp (maxSteps := 1000000) (implicitDefEqProofs := false) only [Try.ntmps82, Try.results82, efc82, a1, a2, a3, a4, a5, a6, w1, a7, q, k1, List.length_map, ss, sd, evOp, evPlain, evVal, evMem, St.get, sliceOf, arrayOf, fieldsOf, normOf, norm, look, evVar, evFieldAddr, nameOf, St.alloc, St.drop, killOb, part, splice, depth, resultsV, ↓reduceIte, Nat.reduceBEq, Nat.reduceAdd, Nat.reduceSub, Nat.reduceMul, Nat.reduceEqDiff, Nat.reduceLeDiff, Nat.reduceLT, effOf, effMem, effVar, effLit, effMake, effApp, lend, evLit, evNil, freeze, evField, evIndexT, orNil, evSlice, placeOf, evMap, mapOf, keyOk, evFrame, closed, fixed, sameEs, wit, Option.isSome_some, St.with, wantedD, Array.size, te, einl, inls, efr]
  · have q : ((p.cs.length : Int) != p.w * p.h) = true := by simpa using a8
    rw [f3 ok a7 a8]
    simp (maxSteps := 1000000) (implicitDefEqProofs := false) only [Try.ntmps82, Try.results82, efc82, a1, a2, a3, a4, a5, a6, w1, a7, q, List.length_map, ss, sd, evOp, evPlain, evVal, evMem, St.get, sliceOf, arrayOf, fieldsOf, normOf, norm, look, evVar, evFieldAddr, nameOf, St.alloc, St.drop, killOb, part, splice, depth, resultsV, ↓reduceIte, Nat.reduceBEq, Nat.reduceAdd, Nat.reduceSub, Nat.reduceMul, Nat.reduceEqDiff, Nat.reduceLeDiff, Nat.reduceLT, effOf, effMem, effVar, effLit, effMake, effApp, lend, evLit, evNil, freeze, evField, evIndexT, orNil, evSlice, placeOf, evMap, mapOf, keyOk, evFrame, closed, fixed, sameEs, wit, Option.isSome_some, St.with, wantedD, Array.size, te, einl, inls, efr]

set_option maxHeartbeats 4000000 in
theorem c42 (p : Pat) (hn : p.cs.length ≤ 1000000000) : (orcω E X0).call 42 [encPat p] = some (.int .i64 (patE p)) := by
  refine call_of rfl fn42 rfl ?_
  have k1 := fun x lo hi => c87 x lo hi
  have f1 := patE_bad (p := p)
  have f2 := patE_big (p := p)
  have f3 := patE_len (p := p)
  have f4 := patE_hue (p := p)
  have f5 := patE_fine (p := p)
  have r1 := range_iff (p := p)
  unfold rangeOk at *
  unfold encPat
  generalize patE p = r at *
  cases a1 : inB p.w 1 144 with
  | false =>
    have : r = 1 := f1 fun hh => by have := r1.2 hh; rw [a1] at this; simp at this
    rw [this]
    simp (maxSteps := 1000000) (implicitDefEqProofs := false) only [Try.ntmps42, Try.results42, efc42, fc42, k1, a1, ss, sd, evOp, evPlain, evVal, evMem, St.get, sliceOf, arrayOf, fieldsOf, normOf, norm, look, evVar, evFieldAddr, nameOf, St.alloc, St.drop, killOb, part, splice, depth, resultsV, ↓reduceIte, Nat.reduceBEq, Nat.reduceAdd, Nat.reduceSub, Nat.reduceMul, Nat.reduceEqDiff, Nat.reduceLeDiff, Nat.reduceLT, effOf, effMem, effVar, effLit, effMake, effApp, lend, evLit, evNil, freeze, evField, evIndexT, orNil, evSlice, placeOf, evMap, mapOf, keyOk, evFrame, closed, fixed, sameEs, wit, Option.isSome_some, St.with, wantedD, Array.size, te, einl, inls, efr]
  | true =>
  cases a2 : inB p.h 1 144 with
  | false =>
    have : r = 1 := f1 fun hh => by have := r1.2 hh; rw [a2] at this; simp at this
    rw [this]
    simp (maxSteps := 1000000) (implicitDefEqProofs := false) only [Try.ntmps42, Try.results42, efc42, fc42, k1, a1, a2, ss, sd, evOp, evPlain, evVal, evMem, St.get, sliceOf, arrayOf, fieldsOf, normOf, norm, look, evVar, evFieldAddr, nameOf, St.alloc, St.drop, killOb, part, splice, depth, resultsV, ↓reduceIte, Nat.reduceBEq, Nat.reduceAdd, Nat.reduceSub, Nat.reduceMul, Nat.reduceEqDiff, Nat.reduceLeDiff, Nat.reduceLT, effOf, effMem, effVar, effLit, effMake, effApp, lend, evLit, evNil, freeze, evField, evIndexT, orNil, evSlice, placeOf, evMap, mapOf, keyOk, evFrame, closed, fixed, sameEs, wit, Option.isSome_some, St.with, wantedD, Array.size, te, einl, inls, efr]
  | true =>
  have b1 := inB_iff.1 a1
  have b2 := inB_iff.1 a2
  have w0 : IntKind.i64.wrap (p.w - 1) = p.w - 1 := wrap_in (by omega)
  cases a3 : inB p.s 0 (p.w - 1) with
  | false =>
    have : r = 1 := f1 fun hh => by have := r1.2 hh; rw [a3] at this; simp at this
    rw [this]
    simp (maxSteps := 1000000) (implicitDefEqProofs := false) only [Try.ntmps42, Try.results42, efc42, fc42, k1, a1, a2, w0, a3, ss, sd, evOp, evPlain, evVal, evMem, St.get, sliceOf, arrayOf, fieldsOf, normOf, norm, look, evVar, evFieldAddr, nameOf, St.alloc, St.drop, killOb, part, splice, depth, resultsV, ↓reduceIte, Nat.reduceBEq, Nat.reduceAdd, Nat.reduceSub, Nat.reduceMul, Nat.reduceEqDiff, Nat.reduceLeDiff, Nat.reduceLT, effOf, effMem, effVar, effLit, effMake, effApp, lend, evLit, evNil, freeze, evField, evIndexT, orNil, evSlice, placeOf, evMap, mapOf, keyOk, evFrame, closed, fixed, sameEs, wit, Option.isSome_some, St.with, wantedD, Array.size, te, einl, inls, efr]
  | true =>
  have b3 := inB_iff.1 a3
  have ok : 1 ≤ p.w ∧ p.w ≤ 144 ∧ 1 ≤ p.h ∧ p.h ≤ 144 ∧ 0 ≤ p.s ∧ p.s < p.w := by omega
  have m := mul_in (a := p.w) (b := p.h) (A := 144) (B := 144) (by omega) (by omega) (by omega) (by omega) (by omega)
  have w1 : IntKind.i64.wrap (p.w * p.h) = p.w * p.h := wrap_in (by omega)
  by_cases a7 : 144 < p.w * p.h
  · rw [f2 ok a7]
    simp (maxSteps := 1000000) (implicitDefEqProofs := false) only [Try.ntmps42, Try.results42, efc42, fc42, k1, a1, a2, w0, a3, w1, a7, ss, sd, evOp, evPlain, evVal, evMem, St.get, sliceOf, arrayOf, fieldsOf, normOf, norm, look, evVar, evFieldAddr, nameOf, St.alloc, St.drop, killOb, part, splice, depth, resultsV, ↓reduceIte, Nat.reduceBEq, Nat.reduceAdd, Nat.reduceSub, Nat.reduceMul, Nat.reduceEqDiff, Nat.reduceLeDiff, Nat.reduceLT, effOf, effMem, effVar, effLit, effMake, effApp, lend, evLit, evNil, freeze, evField, evIndexT, orNil, evSlice, placeOf, evMap, mapOf, keyOk, evFrame, closed, fixed, sameEs, wit, Option.isSome_some, St.with, wantedD, Array.size, te, einl, inls, efr]
  by_cases a8 : (p.cs.length : Int) = p.w * p.h
  · have q : ((p.cs.length : Int) != p.w * p.h) = false := by simpa using a8
    simp (maxSteps := 1000000) (implicitDefEqProofs := false) only [Try.ntmps42, Try.results42, efc42, fc42, k1, a1, a2, w0, a3, w1, a7, q, List.length_map, ss, sd, evOp, evPlain, evVal, evMem, St.get, sliceOf, arrayOf, fieldsOf, normOf, norm, look, evVar, evFieldAddr, nameOf, St.alloc, St.drop, killOb, part, splice, depth, resultsV, ↓reduceIte, Nat.reduceBEq, Nat.reduceAdd, Nat.reduceSub, Nat.reduceMul, Nat.reduceEqDiff, Nat.reduceLeDiff, Nat.reduceLT, effOf, effMem, effVar, effLit, effMake, effApp, lend, evLit, evNil, freeze, evField, evIndexT, orNil, evSlice, placeOf, evMap, mapOf, keyOk, evFrame, closed, fixed, sameEs, wit, Option.isSome_some, St.with, wantedD, Array.size, te, einl, inls, efr]
    have f6 := f4 ok a7
    have f7 := f5 ok a7 a8
    generalize hr : loopAt _ _ _ _ _ _ = r; revert r
    refine loop_list p.cs (fun pre _ => [(3, .int .i64 pre.length)]) (fun _ _ => []) (fun pre (_ : Unit) => pre.all hueOk = true) () (by omega) (by simp (maxSteps := 1000000) (implicitDefEqProofs := false) only [ss, sd, evOp, evPlain, evVal, evMem, St.get, sliceOf, arrayOf, fieldsOf, normOf, norm, look, evVar, evFieldAddr, nameOf, St.alloc, St.drop, killOb, part, splice, depth, resultsV, ↓reduceIte, Nat.reduceBEq, Nat.reduceAdd, Nat.reduceSub, Nat.reduceMul, Nat.reduceEqDiff, Nat.reduceLeDiff, Nat.reduceLT, effOf, effMem, effVar, effLit, effMake, effApp, lend, evLit, evNil, freeze, evField, evIndexT, orNil, evSlice, placeOf, evMap, mapOf, keyOk, evFrame, closed, fixed, sameEs, wit, Option.isSome_some, St.with, wantedD, Array.size, te, einl, inls, efr]) rfl (fun _ hi => ?_) (fun pre a post _ hp hi g1 g2 g3 g4 => ?_)
    · rw [f7 hi]
      simp (maxSteps := 1000000) (implicitDefEqProofs := false) only [Int.lt_irrefl, Try.ntmps42, Try.results42, efc42, fc42, List.length_map, ss, sd, evOp, evPlain, evVal, evMem, St.get, sliceOf, arrayOf, fieldsOf, normOf, norm, look, evVar, evFieldAddr, nameOf, St.alloc, St.drop, killOb, part, splice, depth, resultsV, ↓reduceIte, Nat.reduceBEq, Nat.reduceAdd, Nat.reduceSub, Nat.reduceMul, Nat.reduceEqDiff, Nat.reduceLeDiff, Nat.reduceLT, effOf, effMem, effVar, effLit, effMake, effApp, lend, evLit, evNil, freeze, evField, evIndexT, orNil, evSlice, placeOf, evMap, mapOf, keyOk, evFrame, closed, fixed, sameEs, wit, Option.isSome_some, St.with, wantedD, Array.size, te, einl, inls, efr]
    · cases hc : inB a 0 7 with
      | true =>
        simp (maxSteps := 1000000) (implicitDefEqProofs := false) only [g1, g2, g3, g4, k1, hc, Int.natCast_nonneg, Int.toNat_natCast, List.getElem?_map, List.length_map, ss, sd, evOp, evPlain, evVal, evMem, St.get, sliceOf, arrayOf, fieldsOf, normOf, norm, look, evVar, evFieldAddr, nameOf, St.alloc, St.drop, killOb, part, splice, depth, resultsV, ↓reduceIte, Nat.reduceBEq, Nat.reduceAdd, Nat.reduceSub, Nat.reduceMul, Nat.reduceEqDiff, Nat.reduceLeDiff, Nat.reduceLT, effOf, effMem, effVar, effLit, effMake, effApp, lend, evLit, evNil, freeze, evField, evIndexT, orNil, evSlice, placeOf, evMap, mapOf, keyOk, evFrame, closed, fixed, sameEs, wit, Option.isSome_some, St.with, wantedD, Array.size, te, einl, inls, efr]
        exact ⟨(), by rw [List.all_append, hi]; simp [hueOk, hc]⟩
      | false =>
        have : r = 1 := f6 (by rw [hp, List.all_append, List.all_cons]; simp [hueOk, hc])
        rw [this]
        simp (maxSteps := 1000000) (implicitDefEqProofs := false) only [g1, g2, g3, g4, k1, hc, Int.natCast_nonneg, Int.toNat_natCast, List.getElem?_map, List.length_map, Try.ntmps42, Try.results42, efc42, fc42, ss, sd, evOp, evPlain, evVal, evMem, St.get, sliceOf, arrayOf, fieldsOf, normOf, norm, look, evVar, evFieldAddr, nameOf, St.alloc, St.drop, killOb, part, splice, depth, resultsV, ↓reduceIte, Nat.reduceBEq, Nat.reduceAdd, Nat.reduceSub, Nat.reduceMul, Nat.reduceEqDiff, Nat.reduceLeDiff, Nat.reduceLT, effOf, effMem, effVar, effLit, effMake, effApp, lend, evLit, evNil, freeze, evField, evIndexT, orNil, evSlice, placeOf, evMap, mapOf, keyOk, evFrame, closed, fixed, sameEs, wit, Option.isSome_some, St.with, wantedD, Array.size, te, einl, inls, efr]
  · have q : ((p.cs.length : Int) != p.w * p.h) = true := by simpa using a8
    rw [f3 ok a7 a8]
    simp (maxSteps := 1000000) (implicitDefEqProofs := false) only [Try.ntmps42, Try.results42, efc42, fc42, k1, a1, a2, w0, a3, w1, a7, q, List.length_map, ss, sd, evOp, evPlain, evVal, evMem, St.get, sliceOf, arrayOf, fieldsOf, normOf, norm, look, evVar, evFieldAddr, nameOf, St.alloc, St.drop, killOb, part, splice, depth, resultsV, ↓reduceIte, Nat.reduceBEq, Nat.reduceAdd, Nat.reduceSub, Nat.reduceMul, Nat.reduceEqDiff, Nat.reduceLeDiff, Nat.reduceLT, effOf, effMem, effVar, effLit, effMake, effApp, lend, evLit, evNil, freeze, evField, evIndexT, orNil, evSlice, placeOf, evMap, mapOf, keyOk, evFrame, closed, fixed, sameEs, wit, Option.isSome_some, St.with, wantedD, Array.size, te, einl, inls, efr]
end Go.AM.D
end

section
/-
Patterns: At of both sides; periods.
-/
namespace Go.AM.D
open Go Go.AM Go.Proofs

def atP (p : Pat) (x y : Int) : Int × Int := if patE p = 0 then (if (nearP x && nearP y) = true then (colP p x y, 0) else (0, 1)) else (0, patE p)
def atV (p : Pat) (x y : Int) : V := .tup [.int .i64 (atP p x y).1, .int .i64 (atP p x y).2]
theorem c44 (p : Pat) (x y : Int) (hn : p.cs.length ≤ 1000000000) : (orcω E X0).call 44 [encPat p, .int .i64 x, .int .i64 y] = some (atV p x y) := by
  refine call_of rfl fn44 rfl ?_
  have k1 := c82 p hn
  have k2 := c92 x y
  unfold atV atP
  by_cases a : patE p = 0
  · have k3 := fun hx hy => c93 p x y (patE_ok a) hx hy
    rw [a] at k1
    have q : ((0 : Int) != 0) = false := rfl
    cases b : (nearP x && nearP y) with
    | true =>
      have c := b
      rw [Bool.and_eq_true, nearP_iff, nearP_iff] at c
      have k4 := k3 (by omega) (by omega)
      rw [b] at k2
      unfold encPat at *
      simp (maxSteps := 1000000) (implicitDefEqProofs := false) only [Try.ntmps44, Try.results44, efc44, k1, k2, k4, a, q, ss, sd, evOp, evPlain, evVal, evMem, St.get, sliceOf, arrayOf, fieldsOf, normOf, norm, look, evVar, evFieldAddr, nameOf, St.alloc, St.drop, killOb, part, splice, depth, resultsV, ↓reduceIte, Nat.reduceBEq, Nat.reduceAdd, Nat.reduceSub, Nat.reduceMul, Nat.reduceEqDiff, Nat.reduceLeDiff, Nat.reduceLT, effOf, effMem, effVar, effLit, effMake, effApp, lend, evLit, evNil, freeze, evField, evIndexT, orNil, evSlice, placeOf, evMap, mapOf, keyOk, evFrame, closed, fixed, sameEs, wit, Option.isSome_some, St.with, wantedD, Array.size, te, einl, inls, efr]
    | false =>
      rw [b] at k2
      unfold encPat at *
      simp (maxSteps := 1000000) (implicitDefEqProofs := false) only [Try.ntmps44, Try.results44, efc44, k1, k2, a, q, ss, sd, evOp, evPlain, evVal, evMem, St.get, sliceOf, arrayOf, fieldsOf, normOf, norm, look, evVar, evFieldAddr, nameOf, St.alloc, St.drop, killOb, part, splice, depth, resultsV, ↓reduceIte, Nat.reduceBEq, Nat.reduceAdd, Nat.reduceSub, Nat.reduceMul, Nat.reduceEqDiff, Nat.reduceLeDiff, Nat.reduceLT, effOf, effMem, effVar, effLit, effMake, effApp, lend, evLit, evNil, freeze, evField, evIndexT, orNil, evSlice, placeOf, evMap, mapOf, keyOk, evFrame, closed, fixed, sameEs, wit, Option.isSome_some, St.with, wantedD, Array.size, te, einl, inls, efr]
  · have q : (patE p != 0) = true := by simpa using a
    unfold encPat at *
    simp (maxSteps := 1000000) (implicitDefEqProofs := false) only [Try.ntmps44, Try.results44, efc44, k1, a, q, ss, sd, evOp, evPlain, evVal, evMem, St.get, sliceOf, arrayOf, fieldsOf, normOf, norm, look, evVar, evFieldAddr, nameOf, St.alloc, St.drop, killOb, part, splice, depth, resultsV, ↓reduceIte, Nat.reduceBEq, Nat.reduceAdd, Nat.reduceSub, Nat.reduceMul, Nat.reduceEqDiff, Nat.reduceLeDiff, Nat.reduceLT, effOf, effMem, effVar, effLit, effMake, effApp, lend, evLit, evNil, freeze, evField, evIndexT, orNil, evSlice, placeOf, evMap, mapOf, keyOk, evFrame, closed, fixed, sameEs, wit, Option.isSome_some, St.with, wantedD, Array.size, te, einl, inls, efr]
theorem c86 (p : Pat) (x y : Int) (hn : p.cs.length ≤ 1000000000) : (orcω E X0).call 86 [encPat p, .int .i64 x, .int .i64 y] = some (atV p x y) := by
  refine call_of rfl fn86 rfl ?_
  have k1 := c42 p hn
  have k2 := c121 x y
  unfold atV atP
  by_cases a : patE p = 0
  · have k3 := fun hx hy => c122 p x y (patE_ok a) hx hy
    rw [a] at k1
    have q : ((0 : Int) != 0) = false := rfl
    cases b : (nearP x && nearP y) with
    | true =>
      have c := b
      rw [Bool.and_eq_true, nearP_iff, nearP_iff] at c
      have k4 := k3 (by omega) (by omega)
      rw [b] at k2
      unfold encPat at *
      simp (maxSteps := 1000000) (implicitDefEqProofs := false) only [Try.ntmps86, Try.results86, efc86, k1, k2, k4, a, q, ss, sd, evOp, evPlain, evVal, evMem, St.get, sliceOf, arrayOf, fieldsOf, normOf, norm, look, evVar, evFieldAddr, nameOf, St.alloc, St.drop, killOb, part, splice, depth, resultsV, ↓reduceIte, Nat.reduceBEq, Nat.reduceAdd, Nat.reduceSub, Nat.reduceMul, Nat.reduceEqDiff, Nat.reduceLeDiff, Nat.reduceLT, effOf, effMem, effVar, effLit, effMake, effApp, lend, evLit, evNil, freeze, evField, evIndexT, orNil, evSlice, placeOf, evMap, mapOf, keyOk, evFrame, closed, fixed, sameEs, wit, Option.isSome_some, St.with, wantedD, Array.size, te, einl, inls, efr]
    | false =>
      rw [b] at k2
      unfold encPat at *
      simp (maxSteps := 1000000) (implicitDefEqProofs := false) only [Try.ntmps86, Try.results86, efc86, k1, k2, a, q, ss, sd, evOp, evPlain, evVal, evMem, St.get, sliceOf, arrayOf, fieldsOf, normOf, norm, look, evVar, evFieldAddr, nameOf, St.alloc, St.drop, killOb, part, splice, depth, resultsV, ↓reduceIte, Nat.reduceBEq, Nat.reduceAdd, Nat.reduceSub, Nat.reduceMul, Nat.reduceEqDiff, Nat.reduceLeDiff, Nat.reduceLT, effOf, effMem, effVar, effLit, effMake, effApp, lend, evLit, evNil, freeze, evField, evIndexT, orNil, evSlice, placeOf, evMap, mapOf, keyOk, evFrame, closed, fixed, sameEs, wit, Option.isSome_some, St.with, wantedD, Array.size, te, einl, inls, efr]
  · have q : (patE p != 0) = true := by simpa using a
    unfold encPat at *
    simp (maxSteps := 1000000) (implicitDefEqProofs := false) only [Try.ntmps86, Try.results86, efc86, k1, a, q, ss, sd, evOp, evPlain, evVal, evMem, St.get, sliceOf, arrayOf, fieldsOf, normOf, norm, look, evVar, evFieldAddr, nameOf, St.alloc, St.drop, killOb, part, splice, depth, resultsV, ↓reduceIte, Nat.reduceBEq, Nat.reduceAdd, Nat.reduceSub, Nat.reduceMul, Nat.reduceEqDiff, Nat.reduceLeDiff, Nat.reduceLT, effOf, effMem, effVar, effLit, effMake, effApp, lend, evLit, evNil, freeze, evField, evIndexT, orNil, evSlice, placeOf, evMap, mapOf, keyOk, evFrame, closed, fixed, sameEs, wit, Option.isSome_some, St.with, wantedD, Array.size, te, einl, inls, efr]

/-- Whether the pattern goes over into itself. -/
def perP (p : Pat) (a b : Int) : Bool := (List.range p.h.toNat).all fun (y : Nat) => (List.range p.w.toNat).all fun (x : Nat) => colP p ((x : Int) + a) ((y : Int) + b) == colP p x y
theorem perP_no {p : Pat} {a b : Int} {x y : Nat} (hy : y < p.h.toNat) (hx : x < p.w.toNat) (h : ¬ colP p ((x : Int) + a) ((y : Int) + b) = colP p x y) : perP p a b = false := by
  rw [Bool.eq_false_iff]
  intro hh
  unfold perP at hh
  have h1 := List.all_eq_true.1 (List.all_eq_true.1 hh y (List.mem_range.2 hy)) x (List.mem_range.2 hx)
  simp at h1
  exact h h1
theorem perP_yes {p : Pat} {a b : Int} (h : ∀ x y : Nat, y < p.h.toNat → x < p.w.toNat → colP p ((x : Int) + a) ((y : Int) + b) = colP p x y) : perP p a b = true := by
  unfold perP
  rw [List.all_eq_true]
  intro y hy
  rw [List.all_eq_true]
  intro x hx
  simpa using h x y (List.mem_range.1 hy) (List.mem_range.1 hx)
end Go.AM.D
end

section
/-
Patterns: periods, of both sides.
-/
namespace Go.AM.D
open Go Go.AM Go.Proofs

theorem c114 (p : Pat) : (orcω E X0).call 114 [encPat p] = some (.agg [.int .i64 p.w, .int .i64 p.s, .int .i64 p.h, .clo 136 [] [.fp false [.int .i64 p.w, .int .i64 p.s, .int .i64 p.h, .sl false (p.cs.map fun c => V.int .i64 c)] 0]]) := by
  refine call_of rfl fn114 rfl ?_
  unfold encPat
  simp (maxSteps := 1000000) (implicitDefEqProofs := false) only [Try.ntmps114, Try.results114, efc114, ss, sd, evOp, evPlain, evVal, evMem, St.get, sliceOf, arrayOf, fieldsOf, normOf, norm, look, evVar, evFieldAddr, nameOf, St.alloc, St.drop, killOb, part, splice, depth, resultsV, ↓reduceIte, Nat.reduceBEq, Nat.reduceAdd, Nat.reduceSub, Nat.reduceMul, Nat.reduceEqDiff, Nat.reduceLeDiff, Nat.reduceLT, effOf, effMem, effVar, effLit, effMake, effApp, lend, evLit, evNil, freeze, evField, evIndexT, orNil, evSlice, placeOf, evMap, mapOf, keyOk, evFrame, closed, fixed, sameEs, wit, Option.isSome_some, St.with, wantedD, Array.size, te, einl, inls, efr]
def planeP (t : Bool) (p : Pat) : V := .agg [.int .i64 p.w, .int .i64 p.s, .int .i64 p.h, .clo 136 [] [.fp t [.int .i64 p.w, .int .i64 p.s, .int .i64 p.h, .sl false (p.cs.map fun c => V.int .i64 c)] 0]]

theorem okT140 : okCode (Try.f140.body.getD .skip) = true := by decide +kernel
set_option maxHeartbeats 4000000 in
theorem c140 (p : Pat) (a b : Int) (hp : PatOk p) (ha : 0 ≤ a ∧ a ≤ 1000) (hb : 0 ≤ b ∧ b ≤ 1000) : (orcω E X0).call 140 [encPat p, .int .i64 a, .int .i64 b] = some (.bool (perP p a b)) := by
  refine call_of rfl fn140 rfl ?_
  have hok := okT140
  simp only [Try.f140, Option.getD_some, okCode, Bool.and_eq_true, Bool.and_true, Bool.true_and] at hok
  have k1 := fun x y hx hy => c122 p x y hp hx hy
  have yes := perP_yes (p := p) (a := a) (b := b)
  have no := fun x y => perP_no (p := p) (a := a) (b := b) (x := x) (y := y)
  generalize perP p a b = res at *
  have q2 := hp.w2
  have q4 := hp.h2
  have c1 : ¬ ((p.h.toNat : Nat) : Int) < p.h := by omega
  have c2 : ¬ ((p.w.toNat : Nat) : Int) < p.w := by omega
  unfold encPat at *
  simp (maxSteps := 1000000) (implicitDefEqProofs := false) only [Try.ntmps140, Try.results140, efc140, fc140, ss, sd, evOp, evPlain, evVal, evMem, St.get, sliceOf, arrayOf, fieldsOf, normOf, norm, look, evVar, evFieldAddr, nameOf, St.alloc, St.drop, killOb, part, splice, depth, resultsV, ↓reduceIte, Nat.reduceBEq, Nat.reduceAdd, Nat.reduceSub, Nat.reduceMul, Nat.reduceEqDiff, Nat.reduceLeDiff, Nat.reduceLT, effOf, effMem, effVar, effLit, effMake, effApp, lend, evLit, evNil, freeze, evField, evIndexT, orNil, evSlice, placeOf, evMap, mapOf, keyOk, evFrame, closed, fixed, sameEs, wit, Option.isSome_some, St.with, wantedD, Array.size, te, einl, inls, efr]
  generalize hr : loopAt _ _ _ _ _ _ = r; revert r
  refine loop_nat p.h.toNat (fun i _ => [(7, .int .i64 (i : Nat))]) (fun _ _ => []) (fun i (_ : Unit) => ∀ x y : Nat, y < i → x < p.w.toNat → colP p ((x : Int) + a) ((y : Int) + b) = colP p x y) () (by omega) (by simp (maxSteps := 1000000) (implicitDefEqProofs := false) only [ss, sd, evOp, evPlain, evVal, evMem, St.get, sliceOf, arrayOf, fieldsOf, normOf, norm, look, evVar, evFieldAddr, nameOf, St.alloc, St.drop, killOb, part, splice, depth, resultsV, ↓reduceIte, Nat.reduceBEq, Nat.reduceAdd, Nat.reduceSub, Nat.reduceMul, Nat.reduceEqDiff, Nat.reduceLeDiff, Nat.reduceLT, effOf, effMem, effVar, effLit, effMake, effApp, lend, evLit, evNil, freeze, evField, evIndexT, orNil, evSlice, placeOf, evMap, mapOf, keyOk, evFrame, closed, fixed, sameEs, wit, Option.isSome_some, St.with, wantedD, Array.size, te, einl, inls, efr]) (fun _ _ h => by omega) (fun _ hx => ?_) (fun i _ hx a1 a2 a3 => ?_)
  · have r1 := yes hx
    simp (maxSteps := 1000000) (implicitDefEqProofs := false) only [c1, r1, Try.ntmps140, Try.results140, efc140, fc140, ss, sd, evOp, evPlain, evVal, evMem, St.get, sliceOf, arrayOf, fieldsOf, normOf, norm, look, evVar, evFieldAddr, nameOf, St.alloc, St.drop, killOb, part, splice, depth, resultsV, ↓reduceIte, Nat.reduceBEq, Nat.reduceAdd, Nat.reduceSub, Nat.reduceMul, Nat.reduceEqDiff, Nat.reduceLeDiff, Nat.reduceLT, effOf, effMem, effVar, effLit, effMake, effApp, lend, evLit, evNil, freeze, evField, evIndexT, orNil, evSlice, placeOf, evMap, mapOf, keyOk, evFrame, closed, fixed, sameEs, wit, Option.isSome_some, St.with, wantedD, Array.size, te, einl, inls, efr]
  · have a4 : (i : Int) < p.h := by omega
    simp (maxSteps := 1000000) (implicitDefEqProofs := false) only [a4, a3, ss, sd, evOp, evPlain, evVal, evMem, St.get, sliceOf, arrayOf, fieldsOf, normOf, norm, look, evVar, evFieldAddr, nameOf, St.alloc, St.drop, killOb, part, splice, depth, resultsV, ↓reduceIte, Nat.reduceBEq, Nat.reduceAdd, Nat.reduceSub, Nat.reduceMul, Nat.reduceEqDiff, Nat.reduceLeDiff, Nat.reduceLT, effOf, effMem, effVar, effLit, effMake, effApp, lend, evLit, evNil, freeze, evField, evIndexT, orNil, evSlice, placeOf, evMap, mapOf, keyOk, evFrame, closed, fixed, sameEs, wit, Option.isSome_some, St.with, wantedD, Array.size, te, einl, inls, efr]
    generalize hr : loopAt _ _ _ _ _ _ = r; revert r
    refine loop_nat p.w.toNat (fun j _ => [(8, .int .i64 (j : Nat))]) (fun _ _ => []) (fun j (_ : Unit) => ∀ x : Nat, x < j → colP p ((x : Int) + a) ((i : Int) + b) = colP p x i) () (by omega) (by simp (maxSteps := 1000000) (implicitDefEqProofs := false) only [ss, sd, evOp, evPlain, evVal, evMem, St.get, sliceOf, arrayOf, fieldsOf, normOf, norm, look, evVar, evFieldAddr, nameOf, St.alloc, St.drop, killOb, part, splice, depth, resultsV, ↓reduceIte, Nat.reduceBEq, Nat.reduceAdd, Nat.reduceSub, Nat.reduceMul, Nat.reduceEqDiff, Nat.reduceLeDiff, Nat.reduceLT, effOf, effMem, effVar, effLit, effMake, effApp, lend, evLit, evNil, freeze, evField, evIndexT, orNil, evSlice, placeOf, evMap, mapOf, keyOk, evFrame, closed, fixed, sameEs, wit, Option.isSome_some, St.with, wantedD, Array.size, te, einl, inls, efr]) (fun _ h => by omega) (fun _ hy => ?_) (fun j _ hy b1 b2 b3 => ?_)
    · simp (maxSteps := 1000000) (implicitDefEqProofs := false) only [c2, a3, ss, sd, evOp, evPlain, evVal, evMem, St.get, sliceOf, arrayOf, fieldsOf, normOf, norm, look, evVar, evFieldAddr, nameOf, St.alloc, St.drop, killOb, part, splice, depth, resultsV, ↓reduceIte, Nat.reduceBEq, Nat.reduceAdd, Nat.reduceSub, Nat.reduceMul, Nat.reduceEqDiff, Nat.reduceLeDiff, Nat.reduceLT, effOf, effMem, effVar, effLit, effMake, effApp, lend, evLit, evNil, freeze, evField, evIndexT, orNil, evSlice, placeOf, evMap, mapOf, keyOk, evFrame, closed, fixed, sameEs, wit, Option.isSome_some, St.with, wantedD, Array.size, te, einl, inls, efr]
      refine ⟨(), fun x y hy' hx' => ?_⟩
      by_cases e : y < i
      · exact hx x y e hx'
      · obtain rfl : y = i := by omega
        exact hy x hx'
    · have b4 : (j : Int) < p.w := by omega
      have m1 := k1 j i (by omega) (by omega)
      have m2 := k1 (j + a) (i + b) (by omega) (by omega)
      have w1 : IntKind.i64.wrap ((j : Int) + a) = j + a := wrap_in (by omega)
      have w2 : IntKind.i64.wrap ((i : Int) + b) = i + b := wrap_in (by omega)
      have nx : colP p ((j : Int) + a) ((i : Int) + b) = colP p j i → ∀ x : Nat, x < j + 1 → colP p ((x : Int) + a) ((i : Int) + b) = colP p x i := fun h x hx' => by
        by_cases e : x < j
        · exact hy x e
        · obtain rfl : x = j := by omega
          exact h
      have n1 := no j i a1 b1
      generalize colP p ((j : Int) + a) ((i : Int) + b) = u at *
      generalize colP p (j : Int) (i : Int) = v at *
      by_cases h : u = v
      · have q : (u != v) = false := by simp [h]
        simp (maxSteps := 1000000) (implicitDefEqProofs := false) only [b4, b3, evRegion_st hok, m1, m2, w1, w2, q, ss, sd, evOp, evPlain, evVal, evMem, St.get, sliceOf, arrayOf, fieldsOf, normOf, norm, look, evVar, evFieldAddr, nameOf, St.alloc, St.drop, killOb, part, splice, depth, resultsV, ↓reduceIte, Nat.reduceBEq, Nat.reduceAdd, Nat.reduceSub, Nat.reduceMul, Nat.reduceEqDiff, Nat.reduceLeDiff, Nat.reduceLT, effOf, effMem, effVar, effLit, effMake, effApp, lend, evLit, evNil, freeze, evField, evIndexT, orNil, evSlice, placeOf, evMap, mapOf, keyOk, evFrame, closed, fixed, sameEs, wit, Option.isSome_some, St.with, wantedD, Array.size, te, einl, inls, efr]
        exact ⟨(), nx h⟩
      · have q : (u != v) = true := by simp [h, Ne.symm h]
        have r1 := n1 h
        simp (maxSteps := 1000000) (implicitDefEqProofs := false) only [b4, b3, evRegion_st hok, m1, m2, w1, w2, q, r1, Try.ntmps140, Try.results140, efc140, fc140, ss, sd, evOp, evPlain, evVal, evMem, St.get, sliceOf, arrayOf, fieldsOf, normOf, norm, look, evVar, evFieldAddr, nameOf, St.alloc, St.drop, killOb, part, splice, depth, resultsV, ↓reduceIte, Nat.reduceBEq, Nat.reduceAdd, Nat.reduceSub, Nat.reduceMul, Nat.reduceEqDiff, Nat.reduceLeDiff, Nat.reduceLT, effOf, effMem, effVar, effLit, effMake, effApp, lend, evLit, evNil, freeze, evField, evIndexT, orNil, evSlice, placeOf, evMap, mapOf, keyOk, evFrame, closed, fixed, sameEs, wit, Option.isSome_some, St.with, wantedD, Array.size, te, einl, inls, efr]

theorem okT137 : okCode (Try.f137.body.getD .skip) = true := by decide +kernel
set_option maxHeartbeats 4000000 in
theorem c137 (p : Pat) (a b : Int) (hp : PatOk p) (ha : 0 ≤ a ∧ a ≤ 1000) (hb : 0 ≤ b ∧ b ≤ 1000) : (orcω E X0).call 137 [planeP false p, .int .i64 a, .int .i64 b] = some (.bool (perP p a b)) := by
  refine call_of rfl fn137 rfl ?_
  have hok := okT137
  simp only [Try.f137, Option.getD_some, okCode, Bool.and_eq_true, Bool.and_true, Bool.true_and] at hok
  have k1 := fun x y hx hy => c136 p x y hp hx hy
  have yes := perP_yes (p := p) (a := a) (b := b)
  have no := fun x y => perP_no (p := p) (a := a) (b := b) (x := x) (y := y)
  generalize perP p a b = res at *
  have q2 := hp.w2
  have q4 := hp.h2
  have c1 : ¬ ((p.h.toNat : Nat) : Int) < p.h := by omega
  have c2 : ¬ ((p.w.toNat : Nat) : Int) < p.w := by omega
  unfold planeP at *
  simp (maxSteps := 1000000) (implicitDefEqProofs := false) only [Try.ntmps137, Try.results137, efc137, fc137, ss, sd, evOp, evPlain, evVal, evMem, St.get, sliceOf, arrayOf, fieldsOf, normOf, norm, look, evVar, evFieldAddr, nameOf, St.alloc, St.drop, killOb, part, splice, depth, resultsV, ↓reduceIte, Nat.reduceBEq, Nat.reduceAdd, Nat.reduceSub, Nat.reduceMul, Nat.reduceEqDiff, Nat.reduceLeDiff, Nat.reduceLT, effOf, effMem, effVar, effLit, effMake, effApp, lend, evLit, evNil, freeze, evField, evIndexT, orNil, evSlice, placeOf, evMap, mapOf, keyOk, evFrame, closed, fixed, sameEs, wit, Option.isSome_some, St.with, wantedD, Array.size, te, einl, inls, efr]
  generalize hr : loopAt _ _ _ _ _ _ = r; revert r
  refine loop_nat p.h.toNat (fun i _ => [(11, .int .i64 (i : Nat))]) (fun _ _ => []) (fun i (_ : Unit) => ∀ x y : Nat, y < i → x < p.w.toNat → colP p ((x : Int) + a) ((y : Int) + b) = colP p x y) () (by omega) (by simp (maxSteps := 1000000) (implicitDefEqProofs := false) only [ss, sd, evOp, evPlain, evVal, evMem, St.get, sliceOf, arrayOf, fieldsOf, normOf, norm, look, evVar, evFieldAddr, nameOf, St.alloc, St.drop, killOb, part, splice, depth, resultsV, ↓reduceIte, Nat.reduceBEq, Nat.reduceAdd, Nat.reduceSub, Nat.reduceMul, Nat.reduceEqDiff, Nat.reduceLeDiff, Nat.reduceLT, effOf, effMem, effVar, effLit, effMake, effApp, lend, evLit, evNil, freeze, evField, evIndexT, orNil, evSlice, placeOf, evMap, mapOf, keyOk, evFrame, closed, fixed, sameEs, wit, Option.isSome_some, St.with, wantedD, Array.size, te, einl, inls, efr]) (fun _ _ h => by omega) (fun _ hx => ?_) (fun i _ hx a1 a2 a3 => ?_)
  · have r1 := yes hx
    simp (maxSteps := 1000000) (implicitDefEqProofs := false) only [c1, r1, Try.ntmps137, Try.results137, efc137, fc137, ss, sd, evOp, evPlain, evVal, evMem, St.get, sliceOf, arrayOf, fieldsOf, normOf, norm, look, evVar, evFieldAddr, nameOf, St.alloc, St.drop, killOb, part, splice, depth, resultsV, ↓reduceIte, Nat.reduceBEq, Nat.reduceAdd, Nat.reduceSub, Nat.reduceMul, Nat.reduceEqDiff, Nat.reduceLeDiff, Nat.reduceLT, effOf, effMem, effVar, effLit, effMake, effApp, lend, evLit, evNil, freeze, evField, evIndexT, orNil, evSlice, placeOf, evMap, mapOf, keyOk, evFrame, closed, fixed, sameEs, wit, Option.isSome_some, St.with, wantedD, Array.size, te, einl, inls, efr]
  · have a4 : (i : Int) < p.h := by omega
    simp (maxSteps := 1000000) (implicitDefEqProofs := false) only [a4, a3, ss, sd, evOp, evPlain, evVal, evMem, St.get, sliceOf, arrayOf, fieldsOf, normOf, norm, look, evVar, evFieldAddr, nameOf, St.alloc, St.drop, killOb, part, splice, depth, resultsV, ↓reduceIte, Nat.reduceBEq, Nat.reduceAdd, Nat.reduceSub, Nat.reduceMul, Nat.reduceEqDiff, Nat.reduceLeDiff, Nat.reduceLT, effOf, effMem, effVar, effLit, effMake, effApp, lend, evLit, evNil, freeze, evField, evIndexT, orNil, evSlice, placeOf, evMap, mapOf, keyOk, evFrame, closed, fixed, sameEs, wit, Option.isSome_some, St.with, wantedD, Array.size, te, einl, inls, efr]
    generalize hr : loopAt _ _ _ _ _ _ = r; revert r
    refine loop_nat p.w.toNat (fun j _ => [(16, .int .i64 (j : Nat))]) (fun _ _ => []) (fun j (_ : Unit) => ∀ x : Nat, x < j → colP p ((x : Int) + a) ((i : Int) + b) = colP p x i) () (by omega) (by simp (maxSteps := 1000000) (implicitDefEqProofs := false) only [ss, sd, evOp, evPlain, evVal, evMem, St.get, sliceOf, arrayOf, fieldsOf, normOf, norm, look, evVar, evFieldAddr, nameOf, St.alloc, St.drop, killOb, part, splice, depth, resultsV, ↓reduceIte, Nat.reduceBEq, Nat.reduceAdd, Nat.reduceSub, Nat.reduceMul, Nat.reduceEqDiff, Nat.reduceLeDiff, Nat.reduceLT, effOf, effMem, effVar, effLit, effMake, effApp, lend, evLit, evNil, freeze, evField, evIndexT, orNil, evSlice, placeOf, evMap, mapOf, keyOk, evFrame, closed, fixed, sameEs, wit, Option.isSome_some, St.with, wantedD, Array.size, te, einl, inls, efr]) (fun _ h => by omega) (fun _ hy => ?_) (fun j _ hy b1 b2 b3 => ?_)
    · simp (maxSteps := 1000000) (implicitDefEqProofs := false) only [c2, a3, ss, sd, evOp, evPlain, evVal, evMem, St.get, sliceOf, arrayOf, fieldsOf, normOf, norm, look, evVar, evFieldAddr, nameOf, St.alloc, St.drop, killOb, part, splice, depth, resultsV, ↓reduceIte, Nat.reduceBEq, Nat.reduceAdd, Nat.reduceSub, Nat.reduceMul, Nat.reduceEqDiff, Nat.reduceLeDiff, Nat.reduceLT, effOf, effMem, effVar, effLit, effMake, effApp, lend, evLit, evNil, freeze, evField, evIndexT, orNil, evSlice, placeOf, evMap, mapOf, keyOk, evFrame, closed, fixed, sameEs, wit, Option.isSome_some, St.with, wantedD, Array.size, te, einl, inls, efr]
      refine ⟨(), fun x y hy' hx' => ?_⟩
      by_cases e : y < i
      · exact hx x y e hx'
      · obtain rfl : y = i := by omega
        exact hy x hx'
    · have b4 : (j : Int) < p.w := by omega
      have m1 := k1 j i (by omega) (by omega)
      have m2 := k1 (j + a) (i + b) (by omega) (by omega)
      have w1 : IntKind.i64.wrap ((j : Int) + a) = j + a := wrap_in (by omega)
      have w2 : IntKind.i64.wrap ((i : Int) + b) = i + b := wrap_in (by omega)
      have nx : colP p ((j : Int) + a) ((i : Int) + b) = colP p j i → ∀ x : Nat, x < j + 1 → colP p ((x : Int) + a) ((i : Int) + b) = colP p x i := fun h x hx' => by
        by_cases e : x < j
        · exact hy x e
        · obtain rfl : x = j := by omega
          exact h
      have n1 := no j i a1 b1
      generalize colP p ((j : Int) + a) ((i : Int) + b) = u at *
      generalize colP p (j : Int) (i : Int) = v at *
      by_cases h : u = v
      · have q : (v != u) = false := by simp [h]
        simp (maxSteps := 1000000) (implicitDefEqProofs := false) only [b4, b3, evRegion_st hok, m1, m2, w1, w2, q, ss, sd, evOp, evPlain, evVal, evMem, St.get, sliceOf, arrayOf, fieldsOf, normOf, norm, look, evVar, evFieldAddr, nameOf, St.alloc, St.drop, killOb, part, splice, depth, resultsV, ↓reduceIte, Nat.reduceBEq, Nat.reduceAdd, Nat.reduceSub, Nat.reduceMul, Nat.reduceEqDiff, Nat.reduceLeDiff, Nat.reduceLT, effOf, effMem, effVar, effLit, effMake, effApp, lend, evLit, evNil, freeze, evField, evIndexT, orNil, evSlice, placeOf, evMap, mapOf, keyOk, evFrame, closed, fixed, sameEs, wit, Option.isSome_some, St.with, wantedD, Array.size, te, einl, inls, efr]
        exact ⟨(), nx h⟩
      · have q : (v != u) = true := by simp [h, Ne.symm h]
        have r1 := n1 h
        simp (maxSteps := 1000000) (implicitDefEqProofs := false) only [b4, b3, evRegion_st hok, m1, m2, w1, w2, q, r1, Try.ntmps137, Try.results137, efc137, fc137, ss, sd, evOp, evPlain, evVal, evMem, St.get, sliceOf, arrayOf, fieldsOf, normOf, norm, look, evVar, evFieldAddr, nameOf, St.alloc, St.drop, killOb, part, splice, depth, resultsV, ↓reduceIte, Nat.reduceBEq, Nat.reduceAdd, Nat.reduceSub, Nat.reduceMul, Nat.reduceEqDiff, Nat.reduceLeDiff, Nat.reduceLT, effOf, effMem, effVar, effLit, effMake, effApp, lend, evLit, evNil, freeze, evField, evIndexT, orNil, evSlice, placeOf, evMap, mapOf, keyOk, evFrame, closed, fixed, sameEs, wit, Option.isSome_some, St.with, wantedD, Array.size, te, einl, inls, efr]
end Go.AM.D
end
