/-
The drum: the greatest common divisor; Drum of the program.
-/
import Derived.Test.YtejjeckiplihbaaDLat
set_option linter.unusedSimpArgs false
set_option maxRecDepth 20000

namespace Go.AM.D
open Go Go.AM Go.Proofs

theorem okT116 : okCode (Try.f116.body.getD .skip) = true := by decide +kernel
theorem c116 (a b : Nat) (ha : a ≤ 1000) (hb : b ≤ 1000) : (orcω E X0).call 116 [.int .i64 a, .int .i64 b] = some (.int .i64 (Nat.gcd a b : Nat)) := by
  refine call_of rfl fn116 rfl ?_
  have hok := okT116
  simp only [Try.f116, Option.getD_some, okCode, Bool.and_eq_true, Bool.and_true, Bool.true_and] at hok
  simp (maxSteps := 1000000) (implicitDefEqProofs := false) only [Try.ntmps116, Try.results116, efc116, fc116, ss, sd, evOp, evPlain, evVal, evMem, St.get, sliceOf, arrayOf, fieldsOf, normOf, norm, look, evVar, evFieldAddr, nameOf, St.alloc, St.drop, killOb, part, splice, depth, resultsV, ↓reduceIte, Nat.reduceBEq, Nat.reduceAdd, Nat.reduceSub, Nat.reduceMul, Nat.reduceEqDiff, Nat.reduceLeDiff, Nat.reduceLT, effOf, effMem, effVar, effLit, effMake, effApp, lend, evLit, evNil, freeze, evField, evIndexT, orNil, evSlice, placeOf, evMap, mapOf, keyOk, evFrame, closed, fixed, sameEs, wit, Option.isSome_some, St.with, wantedD, Array.size, te, einl, inls, efr]
  generalize hr : loopAt _ _ _ _ _ _ = r; revert r
  refine loop_inv (ι := { q : Nat × Nat // q.1 ≤ 1000 ∧ q.2 ≤ 1000 ∧ Nat.gcd q.1 q.2 = Nat.gcd a b }) (fun q => [(0, .int .i64 (q.1.1 : Nat)), (1, .int .i64 (q.1.2 : Nat))]) (fun _ => []) (fun q => q.1.2) ⟨(a, b), ha, hb, rfl⟩ (by simp (maxSteps := 1000000) (implicitDefEqProofs := false) only [ss, sd, evOp, evPlain, evVal, evMem, St.get, sliceOf, arrayOf, fieldsOf, normOf, norm, look, evVar, evFieldAddr, nameOf, St.alloc, St.drop, killOb, part, splice, depth, resultsV, ↓reduceIte, Nat.reduceBEq, Nat.reduceAdd, Nat.reduceSub, Nat.reduceMul, Nat.reduceEqDiff, Nat.reduceLeDiff, Nat.reduceLT, effOf, effMem, effVar, effLit, effMake, effApp, lend, evLit, evNil, freeze, evField, evIndexT, orNil, evSlice, placeOf, evMap, mapOf, keyOk, evFrame, closed, fixed, sameEs, wit, Option.isSome_some, St.with, wantedD, Array.size, te, einl, inls, efr]) ?_
  rintro ⟨⟨x, y⟩, h1, h2, h3⟩
  dsimp only at *
  by_cases e : y = 0
  · subst e
    replace h3 : x = Nat.gcd a b := by rw [← h3]; exact (Nat.gcd_zero_right x).symm
    subst h3
    simp (maxSteps := 1000000) (implicitDefEqProofs := false) only [bne_self_eq_false, Int.natCast_zero, Try.ntmps116, Try.results116, efc116, fc116, ss, sd, evOp, evPlain, evVal, evMem, St.get, sliceOf, arrayOf, fieldsOf, normOf, norm, look, evVar, evFieldAddr, nameOf, St.alloc, St.drop, killOb, part, splice, depth, resultsV, ↓reduceIte, Nat.reduceBEq, Nat.reduceAdd, Nat.reduceSub, Nat.reduceMul, Nat.reduceEqDiff, Nat.reduceLeDiff, Nat.reduceLT, effOf, effMem, effVar, effLit, effMake, effApp, lend, evLit, evNil, freeze, evField, evIndexT, orNil, evSlice, placeOf, evMap, mapOf, keyOk, evFrame, closed, fixed, sameEs, wit, Option.isSome_some, St.with, wantedD, Array.size, te, einl, inls, efr]
  · have z : ((y : Int) != 0) = true := by simpa using (show ¬ (y : Int) = 0 by omega)
    have nz : ¬ (y : Int) = 0 := by omega
    have tm : (x : Int).tmod y = ((x % y : Nat) : Int) := by rw [mod_nat (by omega)]; rfl
    have lt := Nat.mod_lt x (show 0 < y by omega)
    have w1 : IntKind.i64.wrap ((x % y : Nat) : Int) = ((x % y : Nat) : Int) := wrap_in (by omega)
    simp (maxSteps := 1000000) (implicitDefEqProofs := false) only [evRegion_st hok, z, nz, tm, w1, ne_eq, not_false_eq_true, ss, sd, evOp, evPlain, evVal, evMem, St.get, sliceOf, arrayOf, fieldsOf, normOf, norm, look, evVar, evFieldAddr, nameOf, St.alloc, St.drop, killOb, part, splice, depth, resultsV, ↓reduceIte, Nat.reduceBEq, Nat.reduceAdd, Nat.reduceSub, Nat.reduceMul, Nat.reduceEqDiff, Nat.reduceLeDiff, Nat.reduceLT, effOf, effMem, effVar, effLit, effMake, effApp, lend, evLit, evNil, freeze, evField, evIndexT, orNil, evSlice, placeOf, evMap, mapOf, keyOk, evFrame, closed, fixed, sameEs, wit, Option.isSome_some, St.with, wantedD, Array.size, te, einl, inls, efr]
    refine ⟨⟨(y, x % y), h2, by dsimp only; omega, ?_⟩, rfl, lt⟩
    dsimp only
    rw [← h3, Nat.gcd_comm y, ← Nat.gcd_rec, Nat.gcd_comm]

/-- How far round and how wide. -/
def drumC (p : Pat) : Int := ((leastH p : Int) * leastW p).tdiv (Nat.gcd (leastW p) (leastS p) : Nat)
def drumV (p : Pat) : V := if patE p = 0 then .tup [.int .i64 (drumC p), .int .i64 (leastW p : Nat), .int .i64 0] else .tup [.int .i64 0, .int .i64 0, .int .i64 (patE p)]
theorem okT83 : okCode (Try.f83.body.getD .skip) = true := by decide +kernel
set_option maxHeartbeats 4000000 in
theorem c83 (p : Pat) (hn : p.cs.length ≤ 1000000000) : (orcω E X0).call 83 [encPat p] = some (drumV p) := by
  refine call_of rfl fn83 rfl ?_
  have hok := okT83
  simp only [Try.f83, Option.getD_some, okCode, Bool.and_eq_true, Bool.and_true, Bool.true_and] at hok
  have k1 := c82 p hn
  have k2 := c114 p
  unfold drumV
  by_cases a : patE p = 0
  · have hp := patE_ok a
    have k3 := c115 p hp
    obtain ⟨u1, u2, _, _⟩ := leastW_spec hp
    obtain ⟨v1, v2, _, _⟩ := leastH_spec hp
    obtain ⟨x1, _, _⟩ := leastS_spec hp
    have w2 := hp.w2
    have ar := least_area hp (Nat.le_refl (leastH p))
    have g1 : 0 < Nat.gcd (leastW p) (leastS p) := Nat.gcd_pos_of_pos_left _ (by omega)
    have k4 := c116 (leastW p) (leastS p) (by omega) (by omega)
    unfold drumC
    rw [a] at k1
    unfold planeP at k3
    generalize rowsP p (leastW p) (leastH p) = tab at *
    generalize leastW p = W at *
    generalize leastH p = H at *
    generalize leastS p = S at *
    generalize Nat.gcd W S = G at *
    rw [Int.mul_comm] at ar
    have w3 : IntKind.i64.wrap ((H : Int) * W) = H * W := wrap_in (by omega)
    have nz : ¬ (G : Int) = 0 := by omega
    have d1 := Int.tdiv_nonneg ar.2 (show (0 : Int) ≤ G by omega)
    have d2 := Int.tdiv_le_self (G : Int) ar.2
    have w4 : IntKind.i64.wrap (((H : Int) * W).tdiv G) = ((H : Int) * W).tdiv G := wrap_in (by omega)
    unfold encPat at *
    simp (maxSteps := 1000000) (implicitDefEqProofs := false) only [Try.ntmps83, Try.results83, efc83, evRegion_st hok, k1, k2, k3, k4, w3, w4, nz, a, bne_self_eq_false, ne_eq, not_false_eq_true, ss, sd, evOp, evPlain, evVal, evMem, St.get, sliceOf, arrayOf, fieldsOf, normOf, norm, look, evVar, evFieldAddr, nameOf, St.alloc, St.drop, killOb, part, splice, depth, resultsV, ↓reduceIte, Nat.reduceBEq, Nat.reduceAdd, Nat.reduceSub, Nat.reduceMul, Nat.reduceEqDiff, Nat.reduceLeDiff, Nat.reduceLT, effOf, effMem, effVar, effLit, effMake, effApp, lend, evLit, evNil, freeze, evField, evIndexT, orNil, evSlice, placeOf, evMap, mapOf, keyOk, evFrame, closed, fixed, sameEs, wit, Option.isSome_some, St.with, wantedD, Array.size, te, einl, inls, efr]
  · have q : (patE p != 0) = true := by simpa using a
    unfold encPat at *
    simp (maxSteps := 1000000) (implicitDefEqProofs := false) only [Try.ntmps83, Try.results83, efc83, k1, a, q, ss, sd, evOp, evPlain, evVal, evMem, St.get, sliceOf, arrayOf, fieldsOf, normOf, norm, look, evVar, evFieldAddr, nameOf, St.alloc, St.drop, killOb, part, splice, depth, resultsV, ↓reduceIte, Nat.reduceBEq, Nat.reduceAdd, Nat.reduceSub, Nat.reduceMul, Nat.reduceEqDiff, Nat.reduceLeDiff, Nat.reduceLT, effOf, effMem, effVar, effLit, effMake, effApp, lend, evLit, evNil, freeze, evField, evIndexT, orNil, evSlice, placeOf, evMap, mapOf, keyOk, evFrame, closed, fixed, sameEs, wit, Option.isSome_some, St.with, wantedD, Array.size, te, einl, inls, efr]
end Go.AM.D
