/-
Patterns: At of both sides; periods.
-/
import Derived.Test.YtejjeckiplihbaaDPatC
set_option linter.unusedSimpArgs false
set_option maxRecDepth 20000

namespace Go.AM.D
open Go Go.AM Go.Proofs

def atP (p : Pat) (x y : Int) : Int × Int := if patE p = 0 then (if (nearP x && nearP y) = true then (colP p x y, 0) else (0, 1)) else (0, patE p)
def atV (p : Pat) (x y : Int) : V := .tup [.int .i64 (atP p x y).1, .int .i64 (atP p x y).2]
theorem c44 (p : Pat) (x y : Int) (hn : p.cs.length ≤ 1000000000) : (orcω E X0).call 44 [encPat p, .int .i64 x, .int .i64 y] = some (atV p x y) := by
  refine call_of rfl fn44 rfl ?_
  have k1 := c82 p hn
  have k2 := c92 x y
  unfold atV atP
  by_cases a : patE p = 0
  · have k3 := fun hx hy => c93 p x y (patE_ok a) hx hy
    rw [a] at k1
    have q : ((0 : Int) != 0) = false := rfl
    cases b : (nearP x && nearP y) with
    | true =>
      have c := b
      rw [Bool.and_eq_true, nearP_iff, nearP_iff] at c
      have k4 := k3 (by omega) (by omega)
      rw [b] at k2
      unfold encPat at *
      simp (maxSteps := 1000000) (implicitDefEqProofs := false) only [Try.ntmps44, Try.results44, efc44, k1, k2, k4, a, q, ss, sd, evOp, evPlain, evVal, evMem, St.get, sliceOf, arrayOf, fieldsOf, normOf, norm, look, evVar, evFieldAddr, nameOf, St.alloc, St.drop, killOb, part, splice, depth, resultsV, ↓reduceIte, Nat.reduceBEq, Nat.reduceAdd, Nat.reduceSub, Nat.reduceMul, Nat.reduceEqDiff, Nat.reduceLeDiff, Nat.reduceLT, effOf, effMem, effVar, effLit, effMake, effApp, lend, evLit, evNil, freeze, evField, evIndexT, orNil, evSlice, placeOf, evMap, mapOf, keyOk, evFrame, closed, fixed, sameEs, wit, Option.isSome_some, St.with, wantedD, Array.size, te, einl, inls, efr]
    | false =>
      rw [b] at k2
      unfold encPat at *
      simp (maxSteps := 1000000) (implicitDefEqProofs := false) only [Try.ntmps44, Try.results44, efc44, k1, k2, a, q, ss, sd, evOp, evPlain, evVal, evMem, St.get, sliceOf, arrayOf, fieldsOf, normOf, norm, look, evVar, evFieldAddr, nameOf, St.alloc, St.drop, killOb, part, splice, depth, resultsV, ↓reduceIte, Nat.reduceBEq, Nat.reduceAdd, Nat.reduceSub, Nat.reduceMul, Nat.reduceEqDiff, Nat.reduceLeDiff, Nat.reduceLT, effOf, effMem, effVar, effLit, effMake, effApp, lend, evLit, evNil, freeze, evField, evIndexT, orNil, evSlice, placeOf, evMap, mapOf, keyOk, evFrame, closed, fixed, sameEs, wit, Option.isSome_some, St.with, wantedD, Array.size, te, einl, inls, efr]
  · have q : (patE p != 0) = true := by simpa using a
    unfold encPat at *
    simp (maxSteps := 1000000) (implicitDefEqProofs := false) only [Try.ntmps44, Try.results44, efc44, k1, a, q, ss, sd, evOp, evPlain, evVal, evMem, St.get, sliceOf, arrayOf, fieldsOf, normOf, norm, look, evVar, evFieldAddr, nameOf, St.alloc, St.drop, killOb, part, splice, depth, resultsV, ↓reduceIte, Nat.reduceBEq, Nat.reduceAdd, Nat.reduceSub, Nat.reduceMul, Nat.reduceEqDiff, Nat.reduceLeDiff, Nat.reduceLT, effOf, effMem, effVar, effLit, effMake, effApp, lend, evLit, evNil, freeze, evField, evIndexT, orNil, evSlice, placeOf, evMap, mapOf, keyOk, evFrame, closed, fixed, sameEs, wit, Option.isSome_some, St.with, wantedD, Array.size, te, einl, inls, efr]
theorem c86 (p : Pat) (x y : Int) (hn : p.cs.length ≤ 1000000000) : (orcω E X0).call 86 [encPat p, .int .i64 x, .int .i64 y] = some (atV p x y) := by
  refine call_of rfl fn86 rfl ?_
  have k1 := c42 p hn
  have k2 := c121 x y
  unfold atV atP
  by_cases a : patE p = 0
  · have k3 := fun hx hy => c122 p x y (patE_ok a) hx hy
    rw [a] at k1
    have q : ((0 : Int) != 0) = false := rfl
    cases b : (nearP x && nearP y) with
    | true =>
      have c := b
      rw [Bool.and_eq_true, nearP_iff, nearP_iff] at c
      have k4 := k3 (by omega) (by omega)
      rw [b] at k2
      unfold encPat at *
      simp (maxSteps := 1000000) (implicitDefEqProofs := false) only [Try.ntmps86, Try.results86, efc86, k1, k2, k4, a, q, ss, sd, evOp, evPlain, evVal, evMem, St.get, sliceOf, arrayOf, fieldsOf, normOf, norm, look, evVar, evFieldAddr, nameOf, St.alloc, St.drop, killOb, part, splice, depth, resultsV, ↓reduceIte, Nat.reduceBEq, Nat.reduceAdd, Nat.reduceSub, Nat.reduceMul, Nat.reduceEqDiff, Nat.reduceLeDiff, Nat.reduceLT, effOf, effMem, effVar, effLit, effMake, effApp, lend, evLit, evNil, freeze, evField, evIndexT, orNil, evSlice, placeOf, evMap, mapOf, keyOk, evFrame, closed, fixed, sameEs, wit, Option.isSome_some, St.with, wantedD, Array.size, te, einl, inls, efr]
    | false =>
      rw [b] at k2
      unfold encPat at *
      simp (maxSteps := 1000000) (implicitDefEqProofs := false) only [Try.ntmps86, Try.results86, efc86, k1, k2, a, q, ss, sd, evOp, evPlain, evVal, evMem, St.get, sliceOf, arrayOf, fieldsOf, normOf, norm, look, evVar, evFieldAddr, nameOf, St.alloc, St.drop, killOb, part, splice, depth, resultsV, ↓reduceIte, Nat.reduceBEq, Nat.reduceAdd, Nat.reduceSub, Nat.reduceMul, Nat.reduceEqDiff, Nat.reduceLeDiff, Nat.reduceLT, effOf, effMem, effVar, effLit, effMake, effApp, lend, evLit, evNil, freeze, evField, evIndexT, orNil, evSlice, placeOf, evMap, mapOf, keyOk, evFrame, closed, fixed, sameEs, wit, Option.isSome_some, St.with, wantedD, Array.size, te, einl, inls, efr]
  · have q : (patE p != 0) = true := by simpa using a
    unfold encPat at *
    simp (maxSteps := 1000000) (implicitDefEqProofs := false) only [Try.ntmps86, Try.results86, efc86, k1, a, q, ss, sd, evOp, evPlain, evVal, evMem, St.get, sliceOf, arrayOf, fieldsOf, normOf, norm, look, evVar, evFieldAddr, nameOf, St.alloc, St.drop, killOb, part, splice, depth, resultsV, ↓reduceIte, Nat.reduceBEq, Nat.reduceAdd, Nat.reduceSub, Nat.reduceMul, Nat.reduceEqDiff, Nat.reduceLeDiff, Nat.reduceLT, effOf, effMem, effVar, effLit, effMake, effApp, lend, evLit, evNil, freeze, evField, evIndexT, orNil, evSlice, placeOf, evMap, mapOf, keyOk, evFrame, closed, fixed, sameEs, wit, Option.isSome_some, St.with, wantedD, Array.size, te, einl, inls, efr]

/-- Whether the pattern goes over into itself. -/
def perP (p : Pat) (a b : Int) : Bool := (List.range p.h.toNat).all fun (y : Nat) => (List.range p.w.toNat).all fun (x : Nat) => colP p ((x : Int) + a) ((y : Int) + b) == colP p x y
theorem perP_no {p : Pat} {a b : Int} {x y : Nat} (hy : y < p.h.toNat) (hx : x < p.w.toNat) (h : ¬ colP p ((x : Int) + a) ((y : Int) + b) = colP p x y) : perP p a b = false := by
  rw [Bool.eq_false_iff]
  intro hh
  unfold perP at hh
  have h1 := List.all_eq_true.1 (List.all_eq_true.1 hh y (List.mem_range.2 hy)) x (List.mem_range.2 hx)
  simp at h1
  exact h h1
theorem perP_yes {p : Pat} {a b : Int} (h : ∀ x y : Nat, y < p.h.toNat → x < p.w.toNat → colP p ((x : Int) + a) ((y : Int) + b) = colP p x y) : perP p a b = true := by
  unfold perP
  rw [List.all_eq_true]
  intro y hy
  rw [List.all_eq_true]
  intro x hx
  simpa using h x y (List.mem_range.1 hy) (List.mem_range.1 hx)
end Go.AM.D
