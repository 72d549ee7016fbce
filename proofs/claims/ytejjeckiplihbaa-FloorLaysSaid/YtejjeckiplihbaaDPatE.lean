/-
Patterns: periods, of both sides.
-/
import Derived.Test.YtejjeckiplihbaaDPatD
set_option linter.unusedSimpArgs false
set_option maxRecDepth 20000

namespace Go.AM.D
open Go Go.AM Go.Proofs

theorem c114 (p : Pat) : (orcω E X0).call 114 [encPat p] = some (.agg [.int .i64 p.w, .int .i64 p.s, .int .i64 p.h, .clo 136 [] [.fp false [.int .i64 p.w, .int .i64 p.s, .int .i64 p.h, .sl false (p.cs.map fun c => V.int .i64 c)] 0]]) := by
  refine call_of rfl fn114 rfl ?_
  unfold encPat
  simp (maxSteps := 1000000) (implicitDefEqProofs := false) only [Try.ntmps114, Try.results114, efc114, ss, sd, evOp, evPlain, evVal, evMem, St.get, sliceOf, arrayOf, fieldsOf, normOf, norm, look, evVar, evFieldAddr, nameOf, St.alloc, St.drop, killOb, part, splice, depth, resultsV, ↓reduceIte, Nat.reduceBEq, Nat.reduceAdd, Nat.reduceSub, Nat.reduceMul, Nat.reduceEqDiff, Nat.reduceLeDiff, Nat.reduceLT, effOf, effMem, effVar, effLit, effMake, effApp, lend, evLit, evNil, freeze, evField, evIndexT, orNil, evSlice, placeOf, evMap, mapOf, keyOk, evFrame, closed, fixed, sameEs, wit, Option.isSome_some, St.with, wantedD, Array.size, te, einl, inls, efr]
def planeP (t : Bool) (p : Pat) : V := .agg [.int .i64 p.w, .int .i64 p.s, .int .i64 p.h, .clo 136 [] [.fp t [.int .i64 p.w, .int .i64 p.s, .int .i64 p.h, .sl false (p.cs.map fun c => V.int .i64 c)] 0]]

theorem okT140 : okCode (Try.f140.body.getD .skip) = true := by decide +kernel
set_option maxHeartbeats 4000000 in
theorem c140 (p : Pat) (a b : Int) (hp : PatOk p) (ha : 0 ≤ a ∧ a ≤ 1000) (hb : 0 ≤ b ∧ b ≤ 1000) : (orcω E X0).call 140 [encPat p, .int .i64 a, .int .i64 b] = some (.bool (perP p a b)) := by
  refine call_of rfl fn140 rfl ?_
  have hok := okT140
  simp only [Try.f140, Option.getD_some, okCode, Bool.and_eq_true, Bool.and_true, Bool.true_and] at hok
  have k1 := fun x y hx hy => c122 p x y hp hx hy
  have yes := perP_yes (p := p) (a := a) (b := b)
  have no := fun x y => perP_no (p := p) (a := a) (b := b) (x := x) (y := y)
  generalize perP p a b = res at *
  have q2 := hp.w2
  have q4 := hp.h2
  have c1 : ¬ ((p.h.toNat : Nat) : Int) < p.h := by omega
  have c2 : ¬ ((p.w.toNat : Nat) : Int) < p.w := by omega
  unfold encPat at *
  simp (maxSteps := 1000000) (implicitDefEqProofs := false) only [Try.ntmps140, Try.results140, efc140, fc140, ss, sd, evOp, evPlain, evVal, evMem, St.get, sliceOf, arrayOf, fieldsOf, normOf, norm, look, evVar, evFieldAddr, nameOf, St.alloc, St.drop, killOb, part, splice, depth, resultsV, ↓reduceIte, Nat.reduceBEq, Nat.reduceAdd, Nat.reduceSub, Nat.reduceMul, Nat.reduceEqDiff, Nat.reduceLeDiff, Nat.reduceLT, effOf, effMem, effVar, effLit, effMake, effApp, lend, evLit, evNil, freeze, evField, evIndexT, orNil, evSlice, placeOf, evMap, mapOf, keyOk, evFrame, closed, fixed, sameEs, wit, Option.isSome_some, St.with, wantedD, Array.size, te, einl, inls, efr]
  generalize hr : loopAt _ _ _ _ _ _ = r; revert r
  refine loop_nat p.h.toNat (fun i _ => [(7, .int .i64 (i : Nat))]) (fun _ _ => []) (fun i (_ : Unit) => ∀ x y : Nat, y < i → x < p.w.toNat → colP p ((x : Int) + a) ((y : Int) + b) = colP p x y) () (by omega) (by simp (maxSteps := 1000000) (implicitDefEqProofs := false) only [ss, sd, evOp, evPlain, evVal, evMem, St.get, sliceOf, arrayOf, fieldsOf, normOf, norm, look, evVar, evFieldAddr, nameOf, St.alloc, St.drop, killOb, part, splice, depth, resultsV, ↓reduceIte, Nat.reduceBEq, Nat.reduceAdd, Nat.reduceSub, Nat.reduceMul, Nat.reduceEqDiff, Nat.reduceLeDiff, Nat.reduceLT, effOf, effMem, effVar, effLit, effMake, effApp, lend, evLit, evNil, freeze, evField, evIndexT, orNil, evSlice, placeOf, evMap, mapOf, keyOk, evFrame, closed, fixed, sameEs, wit, Option.isSome_some, St.with, wantedD, Array.size, te, einl, inls, efr]) (fun _ _ h => by omega) (fun _ hx => ?_) (fun i _ hx a1 a2 a3 => ?_)
  · have r1 := yes hx
    simp (maxSteps := 1000000) (implicitDefEqProofs := false) only [c1, r1, Try.ntmps140, Try.results140, efc140, fc140, ss, sd, evOp, evPlain, evVal, evMem, St.get, sliceOf, arrayOf, fieldsOf, normOf, norm, look, evVar, evFieldAddr, nameOf, St.alloc, St.drop, killOb, part, splice, depth, resultsV, ↓reduceIte, Nat.reduceBEq, Nat.reduceAdd, Nat.reduceSub, Nat.reduceMul, Nat.reduceEqDiff, Nat.reduceLeDiff, Nat.reduceLT, effOf, effMem, effVar, effLit, effMake, effApp, lend, evLit, evNil, freeze, evField, evIndexT, orNil, evSlice, placeOf, evMap, mapOf, keyOk, evFrame, closed, fixed, sameEs, wit, Option.isSome_some, St.with, wantedD, Array.size, te, einl, inls, efr]
  · have a4 : (i : Int) < p.h := by omega
    simp (maxSteps := 1000000) (implicitDefEqProofs := false) only [a4, a3, ss, sd, evOp, evPlain, evVal, evMem, St.get, sliceOf, arrayOf, fieldsOf, normOf, norm, look, evVar, evFieldAddr, nameOf, St.alloc, St.drop, killOb, part, splice, depth, resultsV, ↓reduceIte, Nat.reduceBEq, Nat.reduceAdd, Nat.reduceSub, Nat.reduceMul, Nat.reduceEqDiff, Nat.reduceLeDiff, Nat.reduceLT, effOf, effMem, effVar, effLit, effMake, effApp, lend, evLit, evNil, freeze, evField, evIndexT, orNil, evSlice, placeOf, evMap, mapOf, keyOk, evFrame, closed, fixed, sameEs, wit, Option.isSome_some, St.with, wantedD, Array.size, te, einl, inls, efr]
    generalize hr : loopAt _ _ _ _ _ _ = r; revert r
    refine loop_nat p.w.toNat (fun j _ => [(8, .int .i64 (j : Nat))]) (fun _ _ => []) (fun j (_ : Unit) => ∀ x : Nat, x < j → colP p ((x : Int) + a) ((i : Int) + b) = colP p x i) () (by omega) (by simp (maxSteps := 1000000) (implicitDefEqProofs := false) only [ss, sd, evOp, evPlain, evVal, evMem, St.get, sliceOf, arrayOf, fieldsOf, normOf, norm, look, evVar, evFieldAddr, nameOf, St.alloc, St.drop, killOb, part, splice, depth, resultsV, ↓reduceIte, Nat.reduceBEq, Nat.reduceAdd, Nat.reduceSub, Nat.reduceMul, Nat.reduceEqDiff, Nat.reduceLeDiff, Nat.reduceLT, effOf, effMem, effVar, effLit, effMake, effApp, lend, evLit, evNil, freeze, evField, evIndexT, orNil, evSlice, placeOf, evMap, mapOf, keyOk, evFrame, closed, fixed, sameEs, wit, Option.isSome_some, St.with, wantedD, Array.size, te, einl, inls, efr]) (fun _ h => by omega) (fun _ hy => ?_) (fun j _ hy b1 b2 b3 => ?_)
    · simp (maxSteps := 1000000) (implicitDefEqProofs := false) only [c2, a3, ss, sd, evOp, evPlain, evVal, evMem, St.get, sliceOf, arrayOf, fieldsOf, normOf, norm, look, evVar, evFieldAddr, nameOf, St.alloc, St.drop, killOb, part, splice, depth, resultsV, ↓reduceIte, Nat.reduceBEq, Nat.reduceAdd, Nat.reduceSub, Nat.reduceMul, Nat.reduceEqDiff, Nat.reduceLeDiff, Nat.reduceLT, effOf, effMem, effVar, effLit, effMake, effApp, lend, evLit, evNil, freeze, evField, evIndexT, orNil, evSlice, placeOf, evMap, mapOf, keyOk, evFrame, closed, fixed, sameEs, wit, Option.isSome_some, St.with, wantedD, Array.size, te, einl, inls, efr]
      refine ⟨(), fun x y hy' hx' => ?_⟩
      by_cases e : y < i
      · exact hx x y e hx'
      · obtain rfl : y = i := by omega
        exact hy x hx'
    · have b4 : (j : Int) < p.w := by omega
      have m1 := k1 j i (by omega) (by omega)
      have m2 := k1 (j + a) (i + b) (by omega) (by omega)
      have w1 : IntKind.i64.wrap ((j : Int) + a) = j + a := wrap_in (by omega)
      have w2 : IntKind.i64.wrap ((i : Int) + b) = i + b := wrap_in (by omega)
      have nx : colP p ((j : Int) + a) ((i : Int) + b) = colP p j i → ∀ x : Nat, x < j + 1 → colP p ((x : Int) + a) ((i : Int) + b) = colP p x i := fun h x hx' => by
        by_cases e : x < j
        · exact hy x e
        · obtain rfl : x = j := by omega
          exact h
      have n1 := no j i a1 b1
      generalize colP p ((j : Int) + a) ((i : Int) + b) = u at *
      generalize colP p (j : Int) (i : Int) = v at *
      by_cases h : u = v
      · have q : (u != v) = false := by simp [h]
        simp (maxSteps := 1000000) (implicitDefEqProofs := false) only [b4, b3, evRegion_st hok, m1, m2, w1, w2, q, ss, sd, evOp, evPlain, evVal, evMem, St.get, sliceOf, arrayOf, fieldsOf, normOf, norm, look, evVar, evFieldAddr, nameOf, St.alloc, St.drop, killOb, part, splice, depth, resultsV, ↓reduceIte, Nat.reduceBEq, Nat.reduceAdd, Nat.reduceSub, Nat.reduceMul, Nat.reduceEqDiff, Nat.reduceLeDiff, Nat.reduceLT, effOf, effMem, effVar, effLit, effMake, effApp, lend, evLit, evNil, freeze, evField, evIndexT, orNil, evSlice, placeOf, evMap, mapOf, keyOk, evFrame, closed, fixed, sameEs, wit, Option.isSome_some, St.with, wantedD, Array.size, te, einl, inls, efr]
        exact ⟨(), nx h⟩
      · have q : (u != v) = true := by simp [h, Ne.symm h]
        have r1 := n1 h
        simp (maxSteps := 1000000) (implicitDefEqProofs := false) only [b4, b3, evRegion_st hok, m1, m2, w1, w2, q, r1, Try.ntmps140, Try.results140, efc140, fc140, ss, sd, evOp, evPlain, evVal, evMem, St.get, sliceOf, arrayOf, fieldsOf, normOf, norm, look, evVar, evFieldAddr, nameOf, St.alloc, St.drop, killOb, part, splice, depth, resultsV, ↓reduceIte, Nat.reduceBEq, Nat.reduceAdd, Nat.reduceSub, Nat.reduceMul, Nat.reduceEqDiff, Nat.reduceLeDiff, Nat.reduceLT, effOf, effMem, effVar, effLit, effMake, effApp, lend, evLit, evNil, freeze, evField, evIndexT, orNil, evSlice, placeOf, evMap, mapOf, keyOk, evFrame, closed, fixed, sameEs, wit, Option.isSome_some, St.with, wantedD, Array.size, te, einl, inls, efr]

theorem okT137 : okCode (Try.f137.body.getD .skip) = true := by decide +kernel
set_option maxHeartbeats 4000000 in
theorem c137 (p : Pat) (a b : Int) (hp : PatOk p) (ha : 0 ≤ a ∧ a ≤ 1000) (hb : 0 ≤ b ∧ b ≤ 1000) : (orcω E X0).call 137 [planeP false p, .int .i64 a, .int .i64 b] = some (.bool (perP p a b)) := by
  refine call_of rfl fn137 rfl ?_
  have hok := okT137
  simp only [Try.f137, Option.getD_some, okCode, Bool.and_eq_true, Bool.and_true, Bool.true_and] at hok
  have k1 := fun x y hx hy => c136 p x y hp hx hy
  have yes := perP_yes (p := p) (a := a) (b := b)
  have no := fun x y => perP_no (p := p) (a := a) (b := b) (x := x) (y := y)
  generalize perP p a b = res at *
  have q2 := hp.w2
  have q4 := hp.h2
  have c1 : ¬ ((p.h.toNat : Nat) : Int) < p.h := by omega
  have c2 : ¬ ((p.w.toNat : Nat) : Int) < p.w := by omega
  unfold planeP at *
  simp (maxSteps := 1000000) (implicitDefEqProofs := false) only [Try.ntmps137, Try.results137, efc137, fc137, ss, sd, evOp, evPlain, evVal, evMem, St.get, sliceOf, arrayOf, fieldsOf, normOf, norm, look, evVar, evFieldAddr, nameOf, St.alloc, St.drop, killOb, part, splice, depth, resultsV, ↓reduceIte, Nat.reduceBEq, Nat.reduceAdd, Nat.reduceSub, Nat.reduceMul, Nat.reduceEqDiff, Nat.reduceLeDiff, Nat.reduceLT, effOf, effMem, effVar, effLit, effMake, effApp, lend, evLit, evNil, freeze, evField, evIndexT, orNil, evSlice, placeOf, evMap, mapOf, keyOk, evFrame, closed, fixed, sameEs, wit, Option.isSome_some, St.with, wantedD, Array.size, te, einl, inls, efr]
  generalize hr : loopAt _ _ _ _ _ _ = r; revert r
  refine loop_nat p.h.toNat (fun i _ => [(11, .int .i64 (i : Nat))]) (fun _ _ => []) (fun i (_ : Unit) => ∀ x y : Nat, y < i → x < p.w.toNat → colP p ((x : Int) + a) ((y : Int) + b) = colP p x y) () (by omega) (by simp (maxSteps := 1000000) (implicitDefEqProofs := false) only [ss, sd, evOp, evPlain, evVal, evMem, St.get, sliceOf, arrayOf, fieldsOf, normOf, norm, look, evVar, evFieldAddr, nameOf, St.alloc, St.drop, killOb, part, splice, depth, resultsV, ↓reduceIte, Nat.reduceBEq, Nat.reduceAdd, Nat.reduceSub, Nat.reduceMul, Nat.reduceEqDiff, Nat.reduceLeDiff, Nat.reduceLT, effOf, effMem, effVar, effLit, effMake, effApp, lend, evLit, evNil, freeze, evField, evIndexT, orNil, evSlice, placeOf, evMap, mapOf, keyOk, evFrame, closed, fixed, sameEs, wit, Option.isSome_some, St.with, wantedD, Array.size, te, einl, inls, efr]) (fun _ _ h => by omega) (fun _ hx => ?_) (fun i _ hx a1 a2 a3 => ?_)
  · have r1 := yes hx
    simp (maxSteps := 1000000) (implicitDefEqProofs := false) only [c1, r1, Try.ntmps137, Try.results137, efc137, fc137, ss, sd, evOp, evPlain, evVal, evMem, St.get, sliceOf, arrayOf, fieldsOf, normOf, norm, look, evVar, evFieldAddr, nameOf, St.alloc, St.drop, killOb, part, splice, depth, resultsV, ↓reduceIte, Nat.reduceBEq, Nat.reduceAdd, Nat.reduceSub, Nat.reduceMul, Nat.reduceEqDiff, Nat.reduceLeDiff, Nat.reduceLT, effOf, effMem, effVar, effLit, effMake, effApp, lend, evLit, evNil, freeze, evField, evIndexT, orNil, evSlice, placeOf, evMap, mapOf, keyOk, evFrame, closed, fixed, sameEs, wit, Option.isSome_some, St.with, wantedD, Array.size, te, einl, inls, efr]
  · have a4 : (i : Int) < p.h := by omega
    simp (maxSteps := 1000000) (implicitDefEqProofs := false) only [a4, a3, ss, sd, evOp, evPlain, evVal, evMem, St.get, sliceOf, arrayOf, fieldsOf, normOf, norm, look, evVar, evFieldAddr, nameOf, St.alloc, St.drop, killOb, part, splice, depth, resultsV, ↓reduceIte, Nat.reduceBEq, Nat.reduceAdd, Nat.reduceSub, Nat.reduceMul, Nat.reduceEqDiff, Nat.reduceLeDiff, Nat.reduceLT, effOf, effMem, effVar, effLit, effMake, effApp, lend, evLit, evNil, freeze, evField, evIndexT, orNil, evSlice, placeOf, evMap, mapOf, keyOk, evFrame, closed, fixed, sameEs, wit, Option.isSome_some, St.with, wantedD, Array.size, te, einl, inls, efr]
    generalize hr : loopAt _ _ _ _ _ _ = r; revert r
    refine loop_nat p.w.toNat (fun j _ => [(16, .int .i64 (j : Nat))]) (fun _ _ => []) (fun j (_ : Unit) => ∀ x : Nat, x < j → colP p ((x : Int) + a) ((i : Int) + b) = colP p x i) () (by omega) (by simp (maxSteps := 1000000) (implicitDefEqProofs := false) only [ss, sd, evOp, evPlain, evVal, evMem, St.get, sliceOf, arrayOf, fieldsOf, normOf, norm, look, evVar, evFieldAddr, nameOf, St.alloc, St.drop, killOb, part, splice, depth, resultsV, ↓reduceIte, Nat.reduceBEq, Nat.reduceAdd, Nat.reduceSub, Nat.reduceMul, Nat.reduceEqDiff, Nat.reduceLeDiff, Nat.reduceLT, effOf, effMem, effVar, effLit, effMake, effApp, lend, evLit, evNil, freeze, evField, evIndexT, orNil, evSlice, placeOf, evMap, mapOf, keyOk, evFrame, closed, fixed, sameEs, wit, Option.isSome_some, St.with, wantedD, Array.size, te, einl, inls, efr]) (fun _ h => by omega) (fun _ hy => ?_) (fun j _ hy b1 b2 b3 => ?_)
    · simp (maxSteps := 1000000) (implicitDefEqProofs := false) only [c2, a3, ss, sd, evOp, evPlain, evVal, evMem, St.get, sliceOf, arrayOf, fieldsOf, normOf, norm, look, evVar, evFieldAddr, nameOf, St.alloc, St.drop, killOb, part, splice, depth, resultsV, ↓reduceIte, Nat.reduceBEq, Nat.reduceAdd, Nat.reduceSub, Nat.reduceMul, Nat.reduceEqDiff, Nat.reduceLeDiff, Nat.reduceLT, effOf, effMem, effVar, effLit, effMake, effApp, lend, evLit, evNil, freeze, evField, evIndexT, orNil, evSlice, placeOf, evMap, mapOf, keyOk, evFrame, closed, fixed, sameEs, wit, Option.isSome_some, St.with, wantedD, Array.size, te, einl, inls, efr]
      refine ⟨(), fun x y hy' hx' => ?_⟩
      by_cases e : y < i
      · exact hx x y e hx'
      · obtain rfl : y = i := by omega
        exact hy x hx'
    · have b4 : (j : Int) < p.w := by omega
      have m1 := k1 j i (by omega) (by omega)
      have m2 := k1 (j + a) (i + b) (by omega) (by omega)
      have w1 : IntKind.i64.wrap ((j : Int) + a) = j + a := wrap_in (by omega)
      have w2 : IntKind.i64.wrap ((i : Int) + b) = i + b := wrap_in (by omega)
      have nx : colP p ((j : Int) + a) ((i : Int) + b) = colP p j i → ∀ x : Nat, x < j + 1 → colP p ((x : Int) + a) ((i : Int) + b) = colP p x i := fun h x hx' => by
        by_cases e : x < j
        · exact hy x e
        · obtain rfl : x = j := by omega
          exact h
      have n1 := no j i a1 b1
      generalize colP p ((j : Int) + a) ((i : Int) + b) = u at *
      generalize colP p (j : Int) (i : Int) = v at *
      by_cases h : u = v
      · have q : (v != u) = false := by simp [h]
        simp (maxSteps := 1000000) (implicitDefEqProofs := false) only [b4, b3, evRegion_st hok, m1, m2, w1, w2, q, ss, sd, evOp, evPlain, evVal, evMem, St.get, sliceOf, arrayOf, fieldsOf, normOf, norm, look, evVar, evFieldAddr, nameOf, St.alloc, St.drop, killOb, part, splice, depth, resultsV, ↓reduceIte, Nat.reduceBEq, Nat.reduceAdd, Nat.reduceSub, Nat.reduceMul, Nat.reduceEqDiff, Nat.reduceLeDiff, Nat.reduceLT, effOf, effMem, effVar, effLit, effMake, effApp, lend, evLit, evNil, freeze, evField, evIndexT, orNil, evSlice, placeOf, evMap, mapOf, keyOk, evFrame, closed, fixed, sameEs, wit, Option.isSome_some, St.with, wantedD, Array.size, te, einl, inls, efr]
        exact ⟨(), nx h⟩
      · have q : (v != u) = true := by simp [h, Ne.symm h]
        have r1 := n1 h
        simp (maxSteps := 1000000) (implicitDefEqProofs := false) only [b4, b3, evRegion_st hok, m1, m2, w1, w2, q, r1, Try.ntmps137, Try.results137, efc137, fc137, ss, sd, evOp, evPlain, evVal, evMem, St.get, sliceOf, arrayOf, fieldsOf, normOf, norm, look, evVar, evFieldAddr, nameOf, St.alloc, St.drop, killOb, part, splice, depth, resultsV, ↓reduceIte, Nat.reduceBEq, Nat.reduceAdd, Nat.reduceSub, Nat.reduceMul, Nat.reduceEqDiff, Nat.reduceLeDiff, Nat.reduceLT, effOf, effMem, effVar, effLit, effMake, effApp, lend, evLit, evNil, freeze, evField, evIndexT, orNil, evSlice, placeOf, evMap, mapOf, keyOk, evFrame, closed, fixed, sameEs, wit, Option.isSome_some, St.with, wantedD, Array.size, te, einl, inls, efr]
end Go.AM.D
