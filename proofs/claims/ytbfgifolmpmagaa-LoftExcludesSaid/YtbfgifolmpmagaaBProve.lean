/-
Proofs: windows, and the first of them.
-/
import Derived.Test.YtbfgifolmpmagaaBNeeds
import Derived.Test.YtbfgifolmpmagaaBLarge
set_option linter.unusedVariables false
set_option linter.unusedSimpArgs false

namespace Go.AM.B
open Go Go.AM Go.Proofs

def isPM (l : List Loft) (gs : List Goods) (a b : Int) : Bool := decide (bothE l gs = 0) && (inB a 0 b && decide (b ≤ 60) && provM l gs a b)
section
variable (l : List Loft) (gs : List Goods)

theorem okT42 : okCode (Try.f42.body.getD .skip) = true := by decide +kernel

set_option maxHeartbeats 4000000 in
theorem c42 (a b : Int) (hn : gs.length ≤ 1000000000) : (orcω E X0).call 42 [.sl false (l.map encL), .sl false (gs.map encG), .agg [.int .i64 a, .int .i64 b]] = some (.bool (isPM l gs a b)) := by
  refine call_of rfl fn42 rfl ?_
  have hok := okT42
  simp only [Try.f42, Option.getD_some, okCode, Bool.and_eq_true, Bool.and_true, Bool.true_and] at hok
  have k1 := c67 l gs hn
  unfold isPM
  by_cases h : bothE l gs = 0
  · obtain ⟨f1, f2, f3, f4⟩ := both_facts h
    have k2 := c76 l gs f1 f2 f3 f4
    have k3 := c75 l gs a b f1 f2 f3 f4
    rw [h] at k1
    simp (maxSteps := 1000000) (implicitDefEqProofs := false) only [Try.ntmps42, Try.results42, efc42, k1, k2, k3, h, decide_true, Bool.true_and, beq_self_eq_true, evRegion_st hok, ss, List.replicate, zH, qG, zF, zG, St.eval, St.put, St.get, constV, List.set, lenV, qE, qF, qB, zC, norm, xQ, look, xP, xX, zO, zM, zE, zN, qA, qI, St.alloc, St.drop, killL, kill, xU, xV, zA, upd, cells?, part, retag, xT, putIn, refFree, xR, isNew, xS, Ty.isAgg, zB, idsL, ids, idsLL, reach, depth, St.dropL, qD, resultV, ↓reduceIte, Nat.reduceBEq, Nat.reduceAdd, Nat.reduceSub, Nat.reduceMul, Nat.reduceEqDiff, Nat.reduceLeDiff, Nat.reduceLT, qJ, qK, zV, zW, qL, qM, qN, qO, Eff.ap, qP, qQ, xW, qR, zI, onto, dropO, xA, sized, zP, eqT, eqG, minV, evUn, qS, zQ, zR, zS, qC, qT, upO, evSlice0, optInt, xC, qV, xD, del, xB, plain, plainL, zY, zZ, zT, qW, zU, zX, xY, qX, qY, qZ, xE, zJ, zK, zL, xF, xG, wit, xH, Option.isSome_some, xI, qH, xJ, evPre, St.with, xK, xL, zD, xM, xN, xO, Array.size, te, einl, inls, efr]
  · have h' : (bothE l gs == 0) = false := by simpa using h
    simp (maxSteps := 1000000) (implicitDefEqProofs := false) only [Try.ntmps42, Try.results42, efc42, k1, h, h', decide_false, Bool.false_and, evRegion_st hok, ss, List.replicate, zH, qG, zF, zG, St.eval, St.put, St.get, constV, List.set, lenV, qE, qF, qB, zC, norm, xQ, look, xP, xX, zO, zM, zE, zN, qA, qI, St.alloc, St.drop, killL, kill, xU, xV, zA, upd, cells?, part, retag, xT, putIn, refFree, xR, isNew, xS, Ty.isAgg, zB, idsL, ids, idsLL, reach, depth, St.dropL, qD, resultV, ↓reduceIte, Nat.reduceBEq, Nat.reduceAdd, Nat.reduceSub, Nat.reduceMul, Nat.reduceEqDiff, Nat.reduceLeDiff, Nat.reduceLT, qJ, qK, zV, zW, qL, qM, qN, qO, Eff.ap, qP, qQ, xW, qR, zI, onto, dropO, xA, sized, zP, eqT, eqG, minV, evUn, qS, zQ, zR, zS, qC, qT, upO, evSlice0, optInt, xC, qV, xD, del, xB, plain, plainL, zY, zZ, zT, qW, zU, zX, xY, qX, qY, qZ, xE, zJ, zK, zL, xF, xG, wit, xH, Option.isSome_some, xI, qH, xJ, evPre, St.with, xK, xL, zD, xM, xN, xO, Array.size, te, einl, inls, efr]

end

end Go.AM.B

