/-
Patterns: the colour of a cell, and what is a valid pattern.
-/
import Derived.Test.YtejjeckiplihbaaDPat
set_option linter.unusedSimpArgs false
set_option maxRecDepth 20000

namespace Go.AM.D
open Go Go.AM Go.Proofs

theorem okT126 : okCode (Try.f126.body.getD .skip) = true := by decide +kernel
theorem c126 (p : Pat) (x y : Int) (hp : PatOk p) (hx : -1000000 ≤ x ∧ x ≤ 1000000) (hy : -100000 ≤ y ∧ y ≤ 100000) :
    (orcω E X0).call 126 [encPat p, .int .i64 x, .int .i64 y] = some (.tup [.int .i64 ((x - y / p.h * p.s) % p.w), .int .i64 (y % p.h)]) := by
  refine call_of rfl fn126 rfl ?_
  have hok := okT126
  simp only [Try.f126, Option.getD_some, okCode, Bool.and_eq_true, Bool.and_true, Bool.true_and] at hok
  have q := hp.w1
  have q2 := hp.w2
  have q3 := hp.h1
  have q4 := hp.h2
  have q5 := hp.s1
  have q6 := hp.s2
  have b := div_in (B := 100000) q3 hy.1 hy.2 (by omega)
  have b2 := mul_in (B := 143) b.1 b.2 q5 (by omega) (by omega)
  have k1 := c142 y p.h ⟨q3, q4⟩ (by omega)
  have k2 := c143 (x - y / p.h * p.s) p.w ⟨q, q2⟩ (by omega)
  have e1 := Int.mul_ediv_add_emod y p.h
  rw [Int.mul_comm] at e1
  have e2 := Int.emod_nonneg y (show p.h ≠ 0 by omega)
  have e3 := Int.emod_lt_of_pos y (show 0 < p.h by omega)
  have w1 : IntKind.i64.wrap (y / p.h * p.s) = y / p.h * p.s := wrap_in (by omega)
  have w2 : IntKind.i64.wrap (x - y / p.h * p.s) = x - y / p.h * p.s := wrap_in (by omega)
  have w3 : IntKind.i64.wrap (y / p.h * p.h) = y / p.h * p.h := wrap_in (by omega)
  have w4 : IntKind.i64.wrap (y - y / p.h * p.h) = y % p.h := by rw [show y - y / p.h * p.h = y % p.h by omega, wrap_in (by omega)]
  unfold encPat
  simp (maxSteps := 1000000) (implicitDefEqProofs := false) only [Try.ntmps126, Try.results126, efc126, evRegion_st hok, k1, k2, w1, w2, w3, w4, ss, sd, evOp, evPlain, evVal, evMem, St.get, sliceOf, arrayOf, fieldsOf, normOf, norm, look, evVar, evFieldAddr, nameOf, St.alloc, St.drop, killOb, part, splice, depth, resultsV, ↓reduceIte, Nat.reduceBEq, Nat.reduceAdd, Nat.reduceSub, Nat.reduceMul, Nat.reduceEqDiff, Nat.reduceLeDiff, Nat.reduceLT, effOf, effMem, effVar, effLit, effMake, effApp, lend, evLit, evNil, freeze, evField, evIndexT, orNil, evSlice, placeOf, evMap, mapOf, keyOk, evFrame, closed, fixed, sameEs, wit, Option.isSome_some, St.with, wantedD, Array.size, te, einl, inls, efr]

theorem c93 (p : Pat) (x y : Int) (hp : PatOk p) (hx : -1000000 ≤ x ∧ x ≤ 1000000) (hy : -100000 ≤ y ∧ y ≤ 100000) :
    (orcω E X0).call 93 [encPat p, .int .i64 x, .int .i64 y] = some (.int .i64 (colP p x y)) := by
  refine call_of rfl fn93 rfl ?_
  have k1 := c126 p x y hp hx hy
  have q := hp.w1
  have q3 := hp.h1
  have e2 := Int.emod_nonneg y (show p.h ≠ 0 by omega)
  have e3 := Int.emod_lt_of_pos y (show 0 < p.h by omega)
  have e4 := Int.emod_nonneg (x - y / p.h * p.s) (show p.w ≠ 0 by omega)
  have e5 := Int.emod_lt_of_pos (x - y / p.h * p.s) (show 0 < p.w by omega)
  have pl := place_in e2 e3 e4 e5
  have ha := hp.a
  have hl := hp.len
  unfold colP
  generalize (x - y / p.h * p.s) % p.w = a at *
  generalize y % p.h = b at *
  have w1 : IntKind.i64.wrap (b * p.w) = b * p.w := wrap_in (by omega)
  have w2 : IntKind.i64.wrap (b * p.w + a) = b * p.w + a := wrap_in (by omega)
  have g1 : 0 ≤ b * p.w + a := by omega
  have g2 : (b * p.w + a).toNat < p.cs.length := by omega
  have g4 : b * p.w + a < (p.cs.length : Int) := by omega
  have g3 : p.cs[(b * p.w + a).toNat]? = some (p.cs.getD (b * p.w + a).toNat 0) := by
    rw [List.getD_eq_getElem?_getD, List.getElem?_eq_getElem g2]; rfl
  generalize p.cs.getD (b * p.w + a).toNat 0 = c at *
  unfold encPat at *
  simp (maxSteps := 1000000) (implicitDefEqProofs := false) only [Try.ntmps93, Try.results93, efc93, k1, w1, w2, g1, g3, g4, List.getElem?_map, List.length_map, ss, sd, evOp, evPlain, evVal, evMem, St.get, sliceOf, arrayOf, fieldsOf, normOf, norm, look, evVar, evFieldAddr, nameOf, St.alloc, St.drop, killOb, part, splice, depth, resultsV, ↓reduceIte, Nat.reduceBEq, Nat.reduceAdd, Nat.reduceSub, Nat.reduceMul, Nat.reduceEqDiff, Nat.reduceLeDiff, Nat.reduceLT, effOf, effMem, effVar, effLit, effMake, effApp, lend, evLit, evNil, freeze, evField, evIndexT, orNil, evSlice, placeOf, evMap, mapOf, keyOk, evFrame, closed, fixed, sameEs, wit, Option.isSome_some, St.with, wantedD, Array.size, te, einl, inls, efr]
theorem c136 (p : Pat) (x y : Int) (hp : PatOk p) (hx : -1000000 ≤ x ∧ x ≤ 1000000) (hy : -100000 ≤ y ∧ y ≤ 100000) :
    (orcω E X0).call 136 [.int .i64 x, .int .i64 y, .fp false [.int .i64 p.w, .int .i64 p.s, .int .i64 p.h, .sl false (p.cs.map fun c => V.int .i64 c)] 0] = some (.int .i64 (colP p x y)) := by
  refine call_of rfl fn136 rfl ?_
  have k1 := c93 p x y hp hx hy
  unfold encPat at k1
  simp (maxSteps := 1000000) (implicitDefEqProofs := false) only [Try.ntmps136, Try.results136, efc136, k1, ss, sd, evOp, evPlain, evVal, evMem, St.get, sliceOf, arrayOf, fieldsOf, normOf, norm, look, evVar, evFieldAddr, nameOf, St.alloc, St.drop, killOb, part, splice, depth, resultsV, ↓reduceIte, Nat.reduceBEq, Nat.reduceAdd, Nat.reduceSub, Nat.reduceMul, Nat.reduceEqDiff, Nat.reduceLeDiff, Nat.reduceLT, effOf, effMem, effVar, effLit, effMake, effApp, lend, evLit, evNil, freeze, evField, evIndexT, orNil, evSlice, placeOf, evMap, mapOf, keyOk, evFrame, closed, fixed, sameEs, wit, Option.isSome_some, St.with, wantedD, Array.size, te, einl, inls, efr]

theorem okT122 : okCode (Try.f122.body.getD .skip) = true := by decide +kernel
theorem c122 (p : Pat) (x y : Int) (hp : PatOk p) (hx : -1000000 ≤ x ∧ x ≤ 1000000) (hy : -100000 ≤ y ∧ y ≤ 100000) :
    (orcω E X0).call 122 [encPat p, .int .i64 x, .int .i64 y] = some (.int .i64 (colP p x y)) := by
  refine call_of rfl fn122 rfl ?_
  have hok := okT122
  simp only [Try.f122, Option.getD_some, okCode, Bool.and_eq_true, Bool.and_true, Bool.true_and] at hok
  have q := hp.w1
  have q2 := hp.w2
  have q3 := hp.h1
  have q4 := hp.h2
  have q5 := hp.s1
  have q6 := hp.s2
  have b0 := div_in (B := 100000) q3 hy.1 hy.2 (by omega)
  have b2 := mul_in (B := 143) b0.1 b0.2 q5 (by omega) (by omega)
  have k1 := c141 y p.h ⟨q3, q4⟩
  have k2 := c141 (x - y / p.h * p.s) p.w ⟨q, q2⟩
  have e1 := Int.mul_ediv_add_emod y p.h
  have e2 := Int.emod_nonneg y (show p.h ≠ 0 by omega)
  have e3 := Int.emod_lt_of_pos y (show 0 < p.h by omega)
  have e4 := Int.emod_nonneg (x - y / p.h * p.s) (show p.w ≠ 0 by omega)
  have e5 := Int.emod_lt_of_pos (x - y / p.h * p.s) (show 0 < p.w by omega)
  have e6 : (y - y % p.h).tdiv p.h = y / p.h := by
    rw [show y - y % p.h = p.h * (y / p.h) by omega]
    exact Int.mul_tdiv_cancel_left _ (by omega)
  have pl := place_in e2 e3 e4 e5
  have ha := hp.a
  have hl := hp.len
  have w0 : IntKind.i64.wrap (y - y % p.h) = y - y % p.h := wrap_in (by omega)
  have w00 : IntKind.i64.wrap ((y - y % p.h).tdiv p.h) = y / p.h := by rw [e6, wrap_in (by omega)]
  have w3 : IntKind.i64.wrap (y / p.h * p.s) = y / p.h * p.s := wrap_in (by omega)
  have w4 : IntKind.i64.wrap (x - y / p.h * p.s) = x - y / p.h * p.s := wrap_in (by omega)
  have z : (p.h == 0) = false := by rw [Bool.eq_false_iff]; intro h; have := beq_iff_eq.1 h; omega
  have z2 : ¬ p.h = 0 := by omega
  unfold colP
  generalize (x - y / p.h * p.s) % p.w = a at *
  generalize hb : y % p.h = b at *
  have w1 : IntKind.i64.wrap (b * p.w) = b * p.w := wrap_in (by omega)
  have w2 : IntKind.i64.wrap (b * p.w + a) = b * p.w + a := wrap_in (by omega)
  have g1 : 0 ≤ b * p.w + a := by omega
  have g2 : (b * p.w + a).toNat < p.cs.length := by omega
  have g4 : b * p.w + a < (p.cs.length : Int) := by omega
  have g3 : p.cs[(b * p.w + a).toNat]? = some (p.cs.getD (b * p.w + a).toNat 0) := by
    rw [List.getD_eq_getElem?_getD, List.getElem?_eq_getElem g2]; rfl
  generalize p.cs.getD (b * p.w + a).toNat 0 = c at *
  unfold encPat at *
  simp (maxSteps := 1000000) (implicitDefEqProofs := false) only [Try.ntmps122, Try.results122, efc122, evRegion_st hok, k1, k2, z, z2, ne_eq, not_false_eq_true, w0, w00, w1, w2, w3, w4, g1, g3, g4, List.getElem?_map, List.length_map, ss, sd, evOp, evPlain, evVal, evMem, St.get, sliceOf, arrayOf, fieldsOf, normOf, norm, look, evVar, evFieldAddr, nameOf, St.alloc, St.drop, killOb, part, splice, depth, resultsV, ↓reduceIte, Nat.reduceBEq, Nat.reduceAdd, Nat.reduceSub, Nat.reduceMul, Nat.reduceEqDiff, Nat.reduceLeDiff, Nat.reduceLT, effOf, effMem, effVar, effLit, effMake, effApp, lend, evLit, evNil, freeze, evField, evIndexT, orNil, evSlice, placeOf, evMap, mapOf, keyOk, evFrame, closed, fixed, sameEs, wit, Option.isSome_some, St.with, wantedD, Array.size, te, einl, inls, efr]
end Go.AM.D
