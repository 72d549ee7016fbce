/-
The received lots in a lot (lot.Sources).
-/
import Derived.Test.YteocppddjlglbaaFEld
set_option linter.unusedVariables false
set_option linter.unusedSimpArgs false
set_option maxRecDepth 20000

namespace Go.AM.F
open Go Go.AM Go.Proofs

def isSrc (l : List Lot) (f : Nat → Bool) (j : Nat) : Bool := f j && decide ((lotN l j).parts = [])
def srcM (l : List Lot) (f : Nat → Bool) (n : Nat) : List Nat := (List.range n).filter (isSrc l f)
theorem srcM_succ (l : List Lot) (f : Nat → Bool) (n : Nat) : srcM l f (n + 1) = if isSrc l f n = true then srcM l f n ++ [n] else srcM l f n := by
  unfold srcM
  rw [List.range_succ, List.filter_append]
  by_cases h : isSrc l f n = true
  · rw [if_pos h]; simp [h]
  · rw [if_neg h]; simp [h]
theorem srcM_len (l : List Lot) (f : Nat → Bool) (n : Nat) : (srcM l f n).length ≤ n := by
  have := List.length_filter_le (isSrc l f) (List.range n)
  simpa [srcM] using this
def nI (n : Nat) : V := .int .i64 (n : Int)
def srcOb (a : List Nat) : Ob := { es := 1, flat := true, t := true, app := true, elems := a.map nI }

set_option maxHeartbeats 16000000 in
theorem c8 {l : List Lot} (g : Good l) (i : Nat) (hi : i < l.length) : ∃ f, Elders l i f ∧ (orcω E X0).call 8 [encLots l, .int .i64 (i : Int)] = some (.tup [.sl true ((srcM l f l.length).map nI), .int .i64 0]) := by
  obtain ⟨f, hf, k2⟩ := c25 g i hi
  refine ⟨f, hf, ?_⟩
  refine call_of rfl fn8 rfl ?_
  have k1 := g.c15 [(i : Int)] (by simp; omega) (by simp)
  have hl := g.v.len
  simp only [encLots, List.map_cons, List.map_nil, vI] at k1 k2
  simp (maxSteps := 1000000) (implicitDefEqProofs := false) only [encLots, k1, k2, bne_self_eq_false, bls_len, Try.ntmps8, Try.results8, efc8, fc8, ss, sd, zH, qG, zF, zG, St.get, qE, qF, qB, zC, norm, look, zE, qA, qI, St.alloc, St.drop, zA, part, zB, depth, qD, ↓reduceIte, Nat.reduceBEq, Nat.reduceAdd, Nat.reduceSub, Nat.reduceMul, Nat.reduceEqDiff, Nat.reduceLeDiff, Nat.reduceLT, qJ, qK, qL, qM, qN, qO, qP, qQ, qR, zI, qS, qC, qT, evSlice0, qV, qW, qX, qY, qZ, zJ, zK, zL, wit, Option.isSome_some, qH, xK, evPre, St.with, zD, Array.size, toldV, isIntV, orArr, offB, effFr, effFr2, effFr3, mapIn, restSame, sameO, eqW, eqWL, pickR, te, einl, inls, efr]
  generalize hr : loopAt _ _ _ _ _ _ = r; revert r
  refine loop_nat l.length (fun k _ => [(7, .own 7 0 (srcM l f k).length), (22, .int .i64 k)]) (fun k _ => [(7, srcOb (srcM l f k))]) (fun _ (_ : Unit) => True) () (by omega) (by simp (maxSteps := 1000000) (implicitDefEqProofs := false) only [srcOb, srcM, List.range_zero, List.filter_nil, List.map_nil, List.length_nil, ss, sd, zH, qG, zF, zG, St.get, qE, qF, qB, zC, norm, look, zE, qA, qI, St.alloc, St.drop, zA, part, zB, depth, qD, ↓reduceIte, Nat.reduceBEq, Nat.reduceAdd, Nat.reduceSub, Nat.reduceMul, Nat.reduceEqDiff, Nat.reduceLeDiff, Nat.reduceLT, qJ, qK, qL, qM, qN, qO, qP, qQ, qR, zI, qS, qC, qT, evSlice0, qV, qW, qX, qY, qZ, zJ, zK, zL, wit, Option.isSome_some, qH, xK, evPre, St.with, zD, Array.size, toldV, isIntV, orArr, offB, effFr, effFr2, effFr3, mapIn, restSame, sameO, eqW, eqWL, pickR, te, einl, inls, efr]; done) trivial (fun _ _ => ?_) (fun k _ _ q1 q2 q3 => ?_)
  · simp (maxSteps := 1000000) (implicitDefEqProofs := false) only [Int.lt_irrefl, srcOb, Try.ntmps8, Try.results8, efc8, fc8, ss, sd, zH, qG, zF, zG, St.get, qE, qF, qB, zC, norm, look, zE, qA, qI, St.alloc, St.drop, zA, part, zB, depth, qD, ↓reduceIte, Nat.reduceBEq, Nat.reduceAdd, Nat.reduceSub, Nat.reduceMul, Nat.reduceEqDiff, Nat.reduceLeDiff, Nat.reduceLT, qJ, qK, qL, qM, qN, qO, qP, qQ, qR, zI, qS, qC, qT, evSlice0, qV, qW, qX, qY, qZ, zJ, zK, zL, wit, Option.isSome_some, qH, xK, evPre, St.with, zD, Array.size, toldV, isIntV, orArr, offB, effFr, effFr2, effFr3, mapIn, restSame, sameO, eqW, eqWL, pickR, te, einl, inls, efr]
    done
  · have g1 := bls_get f q1
    have g2 := lots_get q1
    have hsl := srcM_len l f k
    have hs := srcM_succ l f k
    have hlot := lotN_at q1
    have hroom : roomy ((srcM l f k).length + 1) 8 = true := by simp [roomy]; omega
    have hroom1 : roomy 1 8 = true := by decide
    have hbig : (srcM l f k).length + 1 ≤ 4294967296 := by omega
    unfold isSrc at hs
    rw [hlot] at hs
    cases hfk : f k with
    | false =>
      rw [hfk] at g1 hs
      simp only [Bool.false_and, Bool.false_eq_true, if_false] at hs
      simp (maxSteps := 1000000) (implicitDefEqProofs := false) only [q2, q3, g1, hs, srcOb, Int.natCast_nonneg, Int.toNat_natCast, List.length_map, ss, sd, zH, qG, zF, zG, St.get, qE, qF, qB, zC, norm, look, zE, qA, qI, St.alloc, St.drop, zA, part, zB, depth, qD, ↓reduceIte, Nat.reduceBEq, Nat.reduceAdd, Nat.reduceSub, Nat.reduceMul, Nat.reduceEqDiff, Nat.reduceLeDiff, Nat.reduceLT, qJ, qK, qL, qM, qN, qO, qP, qQ, qR, zI, qS, qC, qT, evSlice0, qV, qW, qX, qY, qZ, zJ, zK, zL, wit, Option.isSome_some, qH, xK, evPre, St.with, zD, Array.size, toldV, isIntV, orArr, offB, effFr, effFr2, effFr3, mapIn, restSame, sameO, eqW, eqWL, pickR, te, einl, inls, efr]
      (first | exact ⟨(), trivial⟩ | refine ⟨(), ?_, trivial⟩ | skip)
    | true =>
      rw [hfk] at g1 hs
      generalize l[k] = x at *
      obtain ⟨xk, xm, ps⟩ := x
      dsimp only at hs
      by_cases hps : ps = []
      · subst hps
        simp only [decide_true, Bool.and_self, if_true] at hs
        have hm : (srcM l f k).map nI ++ [V.int .i64 (k : Int)] = (srcM l f k ++ [k]).map nI := by simp [nI]
        have hl2 : (srcM l f k ++ [k]).length = (srcM l f k).length + 1 := by simp
        simp (maxSteps := 1000000) (implicitDefEqProofs := false) only [q2, q3, g1, g2, hs, hm, hl2, hroom, hroom1, hbig, srcOb, encLot, List.map_nil, List.length_nil, Int.natCast_zero, beq_self_eq_true, Int.natCast_nonneg, Int.toNat_natCast, List.length_map, ss, sd, zH, qG, zF, zG, St.get, qE, qF, qB, zC, norm, look, zE, qA, qI, St.alloc, St.drop, zA, part, zB, depth, qD, ↓reduceIte, Nat.reduceBEq, Nat.reduceAdd, Nat.reduceSub, Nat.reduceMul, Nat.reduceEqDiff, Nat.reduceLeDiff, Nat.reduceLT, qJ, qK, qL, qM, qN, qO, qP, qQ, qR, zI, qS, qC, qT, evSlice0, qV, qW, qX, qY, qZ, zJ, zK, zL, wit, Option.isSome_some, qH, xK, evPre, St.with, zD, Array.size, toldV, isIntV, orArr, offB, effFr, effFr2, effFr3, mapIn, restSame, sameO, eqW, eqWL, pickR, te, einl, inls, efr]
        exact ⟨(), trivial⟩
      · have hne : ((ps.length : Int) == 0) = false := by have := List.length_pos_iff.2 hps; simp; omega
        rw [decide_eq_false hps] at hs
        simp only [Bool.and_false, Bool.false_eq_true, if_false] at hs
        simp (maxSteps := 1000000) (implicitDefEqProofs := false) only [q2, q3, g1, g2, hs, hne, srcOb, encLot, Int.natCast_nonneg, Int.toNat_natCast, List.length_map, ss, sd, zH, qG, zF, zG, St.get, qE, qF, qB, zC, norm, look, zE, qA, qI, St.alloc, St.drop, zA, part, zB, depth, qD, ↓reduceIte, Nat.reduceBEq, Nat.reduceAdd, Nat.reduceSub, Nat.reduceMul, Nat.reduceEqDiff, Nat.reduceLeDiff, Nat.reduceLT, qJ, qK, qL, qM, qN, qO, qP, qQ, qR, zI, qS, qC, qT, evSlice0, qV, qW, qX, qY, qZ, zJ, zK, zL, wit, Option.isSome_some, qH, xK, evPre, St.with, zD, Array.size, toldV, isIntV, orArr, offB, effFr, effFr2, effFr3, mapIn, restSame, sameO, eqW, eqWL, pickR, te, einl, inls, efr]
        (first | exact ⟨(), trivial⟩ | refine ⟨(), ?_, trivial⟩ | skip)
end Go.AM.F

