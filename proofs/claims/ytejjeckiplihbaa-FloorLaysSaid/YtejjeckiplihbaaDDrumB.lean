/-
The drum of the document: points of the lattice.
-/
import Derived.Test.YtejjeckiplihbaaDDrum
set_option linter.unusedSimpArgs false
set_option maxRecDepth 20000

namespace Go.AM.D
open Go Go.AM Go.Proofs

/-- Whether a point lies in the lattice w, s, h. -/
def inL (w s h x y : Int) : Bool := (y % h == 0) && ((x - y / h * s) % w == 0)
theorem okT120 : okCode (Try.f120.body.getD .skip) = true := by decide +kernel
set_option maxHeartbeats 4000000 in
theorem c120 (t : Bool) (cs : List V) (w s h x y : Int) (hw : 1 ≤ w ∧ w ≤ 144) (hs : 0 ≤ s ∧ s ≤ 144) (hh : 1 ≤ h ∧ h ≤ 144) (hx : 0 ≤ x ∧ x ≤ 100000) (hy : 0 ≤ y ∧ y ≤ 100000) :
    (orcω E X0).call 120 [.agg [.int .i64 w, .int .i64 s, .int .i64 h, .sl t cs], .int .i64 x, .int .i64 y] = some (.bool (inL w s h x y)) := by
  refine call_of rfl fn120 rfl ?_
  have hok := okT120
  simp only [Try.f120, Option.getD_some, okCode, Bool.and_eq_true, Bool.and_true, Bool.true_and] at hok
  have k1 := fun v => c141 v w hw
  have b0 := div_in (B := 100000) hh.1 (x := y) (by omega) hy.2 (by omega)
  have b1 := mul_in (B := 144) b0.1 b0.2 hs.1 hs.2 (by omega)
  have nz : ¬ h = 0 := by omega
  have tm : y.tmod h = y % h := Int.tmod_eq_emod_of_nonneg hy.1
  have td : y.tdiv h = y / h := Int.tdiv_eq_ediv_of_nonneg hy.1
  have m1 := Int.emod_nonneg y nz
  have m2 := Int.emod_lt_of_pos y (show 0 < h by omega)
  have w1 : IntKind.i64.wrap (y % h) = y % h := wrap_in (by omega)
  have w2 : IntKind.i64.wrap (y / h) = y / h := wrap_in (by omega)
  have w3 : IntKind.i64.wrap (y / h * s) = y / h * s := wrap_in (by omega)
  have w4 : IntKind.i64.wrap (x - y / h * s) = x - y / h * s := wrap_in (by omega)
  unfold inL
  cases q : (y % h == 0) with
  | false => simp (maxSteps := 1000000) (implicitDefEqProofs := false) only [Try.ntmps120, Try.results120, efc120, evRegion_st hok, k1, nz, tm, td, w1, w2, w3, w4, q, ne_eq, not_false_eq_true, ss, sd, evOp, evPlain, evVal, evMem, St.get, sliceOf, arrayOf, fieldsOf, normOf, norm, look, evVar, evFieldAddr, nameOf, St.alloc, St.drop, killOb, part, splice, depth, resultsV, ↓reduceIte, Nat.reduceBEq, Nat.reduceAdd, Nat.reduceSub, Nat.reduceMul, Nat.reduceEqDiff, Nat.reduceLeDiff, Nat.reduceLT, effOf, effMem, effVar, effLit, effMake, effApp, lend, evLit, evNil, freeze, evField, evIndexT, orNil, evSlice, placeOf, evMap, mapOf, keyOk, evFrame, closed, fixed, sameEs, wit, Option.isSome_some, St.with, wantedD, Array.size, te, einl, inls, efr]
  | true => simp (maxSteps := 1000000) (implicitDefEqProofs := false) only [Try.ntmps120, Try.results120, efc120, evRegion_st hok, k1, nz, tm, td, w1, w2, w3, w4, q, ne_eq, not_false_eq_true, ss, sd, evOp, evPlain, evVal, evMem, St.get, sliceOf, arrayOf, fieldsOf, normOf, norm, look, evVar, evFieldAddr, nameOf, St.alloc, St.drop, killOb, part, splice, depth, resultsV, ↓reduceIte, Nat.reduceBEq, Nat.reduceAdd, Nat.reduceSub, Nat.reduceMul, Nat.reduceEqDiff, Nat.reduceLeDiff, Nat.reduceLT, effOf, effMem, effVar, effLit, effMake, effApp, lend, evLit, evNil, freeze, evField, evIndexT, orNil, evSlice, placeOf, evMap, mapOf, keyOk, evFrame, closed, fixed, sameEs, wit, Option.isSome_some, St.with, wantedD, Array.size, te, einl, inls, efr]
end Go.AM.D
