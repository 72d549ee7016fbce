/-
The least lattice of a pattern: the program's search, the greatest common divisor.
-/
import Derived.Test.YtejjeckiplihbaaDLatG
import Derived.Test.YtejjeckiplihbaaDPatF
set_option linter.unusedSimpArgs false
set_option maxRecDepth 20000

namespace Go.AM.D
open Go Go.AM Go.Proofs

theorem mod_nat {a : Int} {n : Nat} (h : 0 ≤ a) : a.tmod n = a % n := Int.tmod_eq_emod_of_nonneg h

set_option maxHeartbeats 8000000 in
theorem c115 (p : Pat) (hp : PatOk p) :
    (orcω E X0).call 115 [planeP false p] = some (.tup [.agg [.int .i64 (leastW p : Nat), .int .i64 (leastS p : Nat), .int .i64 (leastH p : Nat), .sl true ((rowsP p (leastW p) (leastH p)).map vI)], .bool true]) := by
  refine call_of rfl fn115 rfl ?_
  obtain ⟨u1, u2, u3, u4⟩ := leastW_spec hp
  obtain ⟨v1, v2, v3, v4⟩ := leastH_spec hp
  obtain ⟨x1, x2, x3⟩ := leastS_spec hp
  have ar := fun h hh => least_area hp (h := h) hh
  have w2 := hp.w2
  have h2 := hp.h2
  have kp := fun a b ha hb => c137 p a b hp ha hb
  have kt := c138 p (leastW p) (leastH p) (leastS p) hp (by omega) (by omega)
  have hitno : ∀ h, 1 ≤ h → h < leastH p → ∀ s, s < leastW p → okS p h s = false := fun h e1 e2 s e3 => by
    have := v4 h e1 e2
    unfold hitH at this
    rw [List.any_eq_false] at this
    simpa using this s (List.mem_range.2 e3)
  have q1 := hp.w1
  have q2 := hp.h1
  unfold okW okS at *
  generalize rowsP p (leastW p) (leastH p) = tab at *
  generalize leastW p = W at *
  generalize leastH p = H at *
  generalize leastS p = S at *
  unfold planeP at *
  simp (maxSteps := 1000000) (implicitDefEqProofs := false) only [Try.ntmps115, Try.results115, efc115, fc115, ss, sd, evOp, evPlain, evVal, evMem, St.get, sliceOf, arrayOf, fieldsOf, normOf, norm, look, evVar, evFieldAddr, nameOf, St.alloc, St.drop, killOb, part, splice, depth, resultsV, ↓reduceIte, Nat.reduceBEq, Nat.reduceAdd, Nat.reduceSub, Nat.reduceMul, Nat.reduceEqDiff, Nat.reduceLeDiff, Nat.reduceLT, effOf, effMem, effVar, effLit, effMake, effApp, lend, evLit, evNil, freeze, evField, evIndexT, orNil, evSlice, placeOf, evMap, mapOf, keyOk, evFrame, closed, fixed, sameEs, wit, Option.isSome_some, St.with, wantedD, Array.size, te, einl, inls, efr]
  generalize hr : loopAt _ _ _ _ _ _ = r; revert r
  refine loop_inv (ι := { n : Nat // 1 ≤ n ∧ n ≤ W }) (fun n => [(4, .int .i64 (n.1 : Nat))]) (fun _ => []) (fun n => W - n.1) ⟨1, by omega, u1⟩ (by simp (maxSteps := 1000000) (implicitDefEqProofs := false) only [Int.natCast_one, ss, sd, evOp, evPlain, evVal, evMem, St.get, sliceOf, arrayOf, fieldsOf, normOf, norm, look, evVar, evFieldAddr, nameOf, St.alloc, St.drop, killOb, part, splice, depth, resultsV, ↓reduceIte, Nat.reduceBEq, Nat.reduceAdd, Nat.reduceSub, Nat.reduceMul, Nat.reduceEqDiff, Nat.reduceLeDiff, Nat.reduceLT, effOf, effMem, effVar, effLit, effMake, effApp, lend, evLit, evNil, freeze, evField, evIndexT, orNil, evSlice, placeOf, evMap, mapOf, keyOk, evFrame, closed, fixed, sameEs, wit, Option.isSome_some, St.with, wantedD, Array.size, te, einl, inls, efr]) ?_
  rintro ⟨n, n1, n2⟩
  dsimp only
  have nz : ¬ (n : Int) = 0 := by omega
  have tm : p.w.tmod n = p.w % n := mod_nat (by omega)
  have b1 := Int.emod_nonneg p.w nz
  have b2 := Int.emod_lt_of_pos p.w (show (0 : Int) < n by omega)
  have w1 : IntKind.i64.wrap (p.w % (n : Int)) = p.w % n := wrap_in (by omega)
  have m1 := kp n 0 (by omega) (by omega)
  by_cases e : n = W
  · subst e
    rw [Bool.and_eq_true] at u3
    have z : (p.w % (n : Int) != 0) = false := by simpa using u3.1
    rw [u3.2] at m1
    simp (maxSteps := 1000000) (implicitDefEqProofs := false) only [nz, tm, w1, m1, z, ne_eq, not_false_eq_true, ss, sd, evOp, evPlain, evVal, evMem, St.get, sliceOf, arrayOf, fieldsOf, normOf, norm, look, evVar, evFieldAddr, nameOf, St.alloc, St.drop, killOb, part, splice, depth, resultsV, ↓reduceIte, Nat.reduceBEq, Nat.reduceAdd, Nat.reduceSub, Nat.reduceMul, Nat.reduceEqDiff, Nat.reduceLeDiff, Nat.reduceLT, effOf, effMem, effVar, effLit, effMake, effApp, lend, evLit, evNil, freeze, evField, evIndexT, orNil, evSlice, placeOf, evMap, mapOf, keyOk, evFrame, closed, fixed, sameEs, wit, Option.isSome_some, St.with, wantedD, Array.size, te, einl, inls, efr]
    generalize hr : loopAt _ _ _ _ _ _ = r; revert r
    refine loop_inv (ι := { h : Nat // 1 ≤ h ∧ h ≤ H }) (fun h => [(5, .int .i64 (h.1 : Nat))]) (fun _ => []) (fun h => H - h.1) ⟨1, by omega, v1⟩ (by simp (maxSteps := 1000000) (implicitDefEqProofs := false) only [Int.natCast_one, ss, sd, evOp, evPlain, evVal, evMem, St.get, sliceOf, arrayOf, fieldsOf, normOf, norm, look, evVar, evFieldAddr, nameOf, St.alloc, St.drop, killOb, part, splice, depth, resultsV, ↓reduceIte, Nat.reduceBEq, Nat.reduceAdd, Nat.reduceSub, Nat.reduceMul, Nat.reduceEqDiff, Nat.reduceLeDiff, Nat.reduceLT, effOf, effMem, effVar, effLit, effMake, effApp, lend, evLit, evNil, freeze, evField, evIndexT, orNil, evSlice, placeOf, evMap, mapOf, keyOk, evFrame, closed, fixed, sameEs, wit, Option.isSome_some, St.with, wantedD, Array.size, te, einl, inls, efr]) ?_
    rintro ⟨h, h1, h2'⟩
    dsimp only
    have ar1 := ar h h2'
    have w4 : IntKind.i64.wrap ((n : Int) * h) = n * h := wrap_in (by omega)
    have w5 : IntKind.i64.wrap ((h : Int) + 1) = ((h + 1 : Nat) : Int) := by rw [wrap_in (by omega)]; omega
    have hz : ¬ (h : Int) = 0 := by omega
    have tm2 : p.h.tmod h = p.h % h := mod_nat (by omega)
    have d1 := Int.emod_nonneg p.h hz
    have d2 := Int.emod_lt_of_pos p.h (show (0 : Int) < h by omega)
    have w6 : IntKind.i64.wrap (p.h % (h : Int)) = p.h % h := wrap_in (by omega)
    by_cases z2 : p.h % (h : Int) = 0
    · have zz : (p.h % (h : Int) == 0) = true := by simpa using z2
      simp (maxSteps := 1000000) (implicitDefEqProofs := false) only [ar1.1, w4, ss, sd, evOp, evPlain, evVal, evMem, St.get, sliceOf, arrayOf, fieldsOf, normOf, norm, look, evVar, evFieldAddr, nameOf, St.alloc, St.drop, killOb, part, splice, depth, resultsV, ↓reduceIte, Nat.reduceBEq, Nat.reduceAdd, Nat.reduceSub, Nat.reduceMul, Nat.reduceEqDiff, Nat.reduceLeDiff, Nat.reduceLT, effOf, effMem, effVar, effLit, effMake, effApp, lend, evLit, evNil, freeze, evField, evIndexT, orNil, evSlice, placeOf, evMap, mapOf, keyOk, evFrame, closed, fixed, sameEs, wit, Option.isSome_some, St.with, wantedD, Array.size, te, einl, inls, efr]
      generalize hr : loopAt _ _ _ _ _ _ = r; revert r
      refine loop_inv (ι := { t : Nat // t ≤ n ∧ (h = H → t ≤ S) }) (fun t => [(6, .int .i64 (t.1 : Nat))]) (fun _ => []) (fun t => n - t.1) ⟨0, by omega, fun _ => by omega⟩ (by simp (maxSteps := 1000000) (implicitDefEqProofs := false) only [Int.natCast_zero, ss, sd, evOp, evPlain, evVal, evMem, St.get, sliceOf, arrayOf, fieldsOf, normOf, norm, look, evVar, evFieldAddr, nameOf, St.alloc, St.drop, killOb, part, splice, depth, resultsV, ↓reduceIte, Nat.reduceBEq, Nat.reduceAdd, Nat.reduceSub, Nat.reduceMul, Nat.reduceEqDiff, Nat.reduceLeDiff, Nat.reduceLT, effOf, effMem, effVar, effLit, effMake, effApp, lend, evLit, evNil, freeze, evField, evIndexT, orNil, evSlice, placeOf, evMap, mapOf, keyOk, evFrame, closed, fixed, sameEs, wit, Option.isSome_some, St.with, wantedD, Array.size, te, einl, inls, efr]) ?_
      rintro ⟨t, t1, t2⟩
      dsimp only
      by_cases tn : t = n
      · have hH : ¬ h = H := fun e => by have := t2 e; omega
        subst tn
        simp (maxSteps := 1000000) (implicitDefEqProofs := false) only [Int.lt_irrefl, w5, ss, sd, evOp, evPlain, evVal, evMem, St.get, sliceOf, arrayOf, fieldsOf, normOf, norm, look, evVar, evFieldAddr, nameOf, St.alloc, St.drop, killOb, part, splice, depth, resultsV, ↓reduceIte, Nat.reduceBEq, Nat.reduceAdd, Nat.reduceSub, Nat.reduceMul, Nat.reduceEqDiff, Nat.reduceLeDiff, Nat.reduceLT, effOf, effMem, effVar, effLit, effMake, effApp, lend, evLit, evNil, freeze, evField, evIndexT, orNil, evSlice, placeOf, evMap, mapOf, keyOk, evFrame, closed, fixed, sameEs, wit, Option.isSome_some, St.with, wantedD, Array.size, te, einl, inls, efr]
        exact ⟨⟨h + 1, by omega, by omega⟩, rfl, by dsimp only; omega⟩
      · have t3 : (t : Int) < n := by omega
        have m2 := kp t h (by omega) (by omega)
        have w7 : IntKind.i64.wrap ((t : Int) + 1) = ((t + 1 : Nat) : Int) := by rw [wrap_in (by omega)]; omega
        by_cases hit : h = H ∧ t = S
        · obtain ⟨rfl, rfl⟩ := hit
          rw [Bool.and_eq_true] at x2
          rw [x2.2] at m2
          simp (maxSteps := 1000000) (implicitDefEqProofs := false) only [t3, hz, tm2, w6, zz, m2, kt, ne_eq, not_false_eq_true, Try.ntmps115, Try.results115, efc115, fc115, ss, sd, evOp, evPlain, evVal, evMem, St.get, sliceOf, arrayOf, fieldsOf, normOf, norm, look, evVar, evFieldAddr, nameOf, St.alloc, St.drop, killOb, part, splice, depth, resultsV, ↓reduceIte, Nat.reduceBEq, Nat.reduceAdd, Nat.reduceSub, Nat.reduceMul, Nat.reduceEqDiff, Nat.reduceLeDiff, Nat.reduceLT, effOf, effMem, effVar, effLit, effMake, effApp, lend, evLit, evNil, freeze, evField, evIndexT, orNil, evSlice, placeOf, evMap, mapOf, keyOk, evFrame, closed, fixed, sameEs, wit, Option.isSome_some, St.with, wantedD, Array.size, te, einl, inls, efr]
        · have pf : perP p t h = false := by
            by_cases e : h = H
            · subst e
              have := x3 t (by have := t2 rfl; omega)
              rw [zz, Bool.true_and] at this
              exact this
            · have := hitno h h1 (by omega) t (by omega)
              rw [zz, Bool.true_and] at this
              exact this
          rw [pf] at m2
          simp (maxSteps := 1000000) (implicitDefEqProofs := false) only [t3, hz, tm2, w6, w7, zz, m2, ne_eq, not_false_eq_true, ss, sd, evOp, evPlain, evVal, evMem, St.get, sliceOf, arrayOf, fieldsOf, normOf, norm, look, evVar, evFieldAddr, nameOf, St.alloc, St.drop, killOb, part, splice, depth, resultsV, ↓reduceIte, Nat.reduceBEq, Nat.reduceAdd, Nat.reduceSub, Nat.reduceMul, Nat.reduceEqDiff, Nat.reduceLeDiff, Nat.reduceLT, effOf, effMem, effVar, effLit, effMake, effApp, lend, evLit, evNil, freeze, evField, evIndexT, orNil, evSlice, placeOf, evMap, mapOf, keyOk, evFrame, closed, fixed, sameEs, wit, Option.isSome_some, St.with, wantedD, Array.size, te, einl, inls, efr]
          exact ⟨⟨t + 1, by omega, fun e => by have := t2 e; omega⟩, rfl, by dsimp only; omega⟩
    · have zz : (p.h % (h : Int) == 0) = false := by simpa using z2
      have hH : ¬ h = H := fun e => by
        subst e
        rw [Bool.and_eq_true, zz] at x2
        exact absurd x2.1 (by decide)
      have n0 : (0 : Int) < n := by omega
      simp (maxSteps := 1000000) (implicitDefEqProofs := false) only [ar1.1, w4, ss, sd, evOp, evPlain, evVal, evMem, St.get, sliceOf, arrayOf, fieldsOf, normOf, norm, look, evVar, evFieldAddr, nameOf, St.alloc, St.drop, killOb, part, splice, depth, resultsV, ↓reduceIte, Nat.reduceBEq, Nat.reduceAdd, Nat.reduceSub, Nat.reduceMul, Nat.reduceEqDiff, Nat.reduceLeDiff, Nat.reduceLT, effOf, effMem, effVar, effLit, effMake, effApp, lend, evLit, evNil, freeze, evField, evIndexT, orNil, evSlice, placeOf, evMap, mapOf, keyOk, evFrame, closed, fixed, sameEs, wit, Option.isSome_some, St.with, wantedD, Array.size, te, einl, inls, efr]
      generalize hr : loopAt _ _ _ _ _ _ = r; revert r
      refine loop_inv (ι := Unit) (fun _ => [(6, .int .i64 0)]) (fun _ => []) (fun _ => 0) () (by simp (maxSteps := 1000000) (implicitDefEqProofs := false) only [ss, sd, evOp, evPlain, evVal, evMem, St.get, sliceOf, arrayOf, fieldsOf, normOf, norm, look, evVar, evFieldAddr, nameOf, St.alloc, St.drop, killOb, part, splice, depth, resultsV, ↓reduceIte, Nat.reduceBEq, Nat.reduceAdd, Nat.reduceSub, Nat.reduceMul, Nat.reduceEqDiff, Nat.reduceLeDiff, Nat.reduceLT, effOf, effMem, effVar, effLit, effMake, effApp, lend, evLit, evNil, freeze, evField, evIndexT, orNil, evSlice, placeOf, evMap, mapOf, keyOk, evFrame, closed, fixed, sameEs, wit, Option.isSome_some, St.with, wantedD, Array.size, te, einl, inls, efr]) ?_
      intro _
      simp (maxSteps := 1000000) (implicitDefEqProofs := false) only [n0, hz, tm2, w6, zz, w5, ne_eq, not_false_eq_true, ss, sd, evOp, evPlain, evVal, evMem, St.get, sliceOf, arrayOf, fieldsOf, normOf, norm, look, evVar, evFieldAddr, nameOf, St.alloc, St.drop, killOb, part, splice, depth, resultsV, ↓reduceIte, Nat.reduceBEq, Nat.reduceAdd, Nat.reduceSub, Nat.reduceMul, Nat.reduceEqDiff, Nat.reduceLeDiff, Nat.reduceLT, effOf, effMem, effVar, effLit, effMake, effApp, lend, evLit, evNil, freeze, evField, evIndexT, orNil, evSlice, placeOf, evMap, mapOf, keyOk, evFrame, closed, fixed, sameEs, wit, Option.isSome_some, St.with, wantedD, Array.size, te, einl, inls, efr]
      exact ⟨⟨h + 1, by omega, by omega⟩, rfl, by dsimp only; omega⟩
  · have f := u4 n n1 (by omega)
    have w3 : IntKind.i64.wrap ((n : Int) + 1) = ((n + 1 : Nat) : Int) := by rw [wrap_in (by omega)]; omega
    have c144 : ¬ 144 < ((n + 1 : Nat) : Int) := by omega
    rw [Bool.and_eq_false_iff] at f
    by_cases z0 : p.w % (n : Int) = 0
    · have z : (p.w % (n : Int) != 0) = false := by simpa using z0
      have pf : perP p n 0 = false := by
        rcases f with f | f
        · rw [z0] at f; simp at f
        · exact f
      rw [pf] at m1
      simp (maxSteps := 1000000) (implicitDefEqProofs := false) only [nz, tm, w1, m1, z, w3, c144, ne_eq, not_false_eq_true, ss, sd, evOp, evPlain, evVal, evMem, St.get, sliceOf, arrayOf, fieldsOf, normOf, norm, look, evVar, evFieldAddr, nameOf, St.alloc, St.drop, killOb, part, splice, depth, resultsV, ↓reduceIte, Nat.reduceBEq, Nat.reduceAdd, Nat.reduceSub, Nat.reduceMul, Nat.reduceEqDiff, Nat.reduceLeDiff, Nat.reduceLT, effOf, effMem, effVar, effLit, effMake, effApp, lend, evLit, evNil, freeze, evField, evIndexT, orNil, evSlice, placeOf, evMap, mapOf, keyOk, evFrame, closed, fixed, sameEs, wit, Option.isSome_some, St.with, wantedD, Array.size, te, einl, inls, efr]
      exact ⟨⟨n + 1, by omega, by omega⟩, rfl, by dsimp only; omega⟩
    · have z : (p.w % (n : Int) != 0) = true := by simpa using z0
      simp (maxSteps := 1000000) (implicitDefEqProofs := false) only [nz, tm, w1, z, w3, c144, ne_eq, not_false_eq_true, ss, sd, evOp, evPlain, evVal, evMem, St.get, sliceOf, arrayOf, fieldsOf, normOf, norm, look, evVar, evFieldAddr, nameOf, St.alloc, St.drop, killOb, part, splice, depth, resultsV, ↓reduceIte, Nat.reduceBEq, Nat.reduceAdd, Nat.reduceSub, Nat.reduceMul, Nat.reduceEqDiff, Nat.reduceLeDiff, Nat.reduceLT, effOf, effMem, effVar, effLit, effMake, effApp, lend, evLit, evNil, freeze, evField, evIndexT, orNil, evSlice, placeOf, evMap, mapOf, keyOk, evFrame, closed, fixed, sameEs, wit, Option.isSome_some, St.with, wantedD, Array.size, te, einl, inls, efr]
      exact ⟨⟨n + 1, by omega, by omega⟩, rfl, by dsimp only; omega⟩
end Go.AM.D
