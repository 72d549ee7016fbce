/-
BlendSolves: what Solve answers is the least cost with its proof, by the document.
-/
import Derived.Test.YtkacpekakpbalaaEDocH
import Derived.Test.YtkacpekakpbalaaEBoundB
import Derived.Test.YtkacpekakpbalaaECheckB
set_option linter.unusedVariables false
set_option linter.unusedSimpArgs false
set_option maxRecDepth 20000

namespace Go.AM.E
open Go Go.AM Go.Proofs

set_option maxRecDepth 20000 in
set_option maxHeartbeats 8000000 in
theorem c5 (b : Blend) : (orcω E XS).call 5 [encBlend b] = some (.bool true) := by
  refine call_of rfl fn5 rfl ?_
  have k0 := c17
  have k20 := c20 b
  have k19 := c19 b
  rw [doc_least] at k19
  by_cases hv : Valid b
  rotate_left
  · have he := errV_no hv
    have hs : solveR b = (⟨0, a0, p0⟩, 1) := by unfold solveR; rw [if_neg (by omega)]
    have hl : leastR b = ((0, 0), false, 1) := by unfold leastR; rw [hs, if_neg (by simp)]
    rw [hs] at k20
    rw [hl] at k19
    unfold encLst at k19
    unfold encOut at k20
    obtain ⟨tot, cs, lo, hi⟩ := b
    simp only [encBlend, a0, p0, List.map_nil] at k19 k20 ⊢
    have q1 : ((1 : Int) != 0) = true := by decide
    simp (maxSteps := 1000000) (implicitDefEqProofs := false) only [Try.ntmps5, Try.results5, efc5, k0, k19, k20, q1, beq_self_eq_true, bne_self_eq_false, Bool.and_self, ss, sd, zI, qG, zG, zH, St.get, qE, qF, qB, zD, norm, look, zF, qA, qI, St.alloc, St.drop, zA, part, zC, depth, qD, ↓reduceIte, Nat.reduceBEq, Nat.reduceAdd, Nat.reduceSub, Nat.reduceMul, Nat.reduceEqDiff, Nat.reduceLeDiff, Nat.reduceLT, qJ, qK, qL, qM, qN, qO, qP, qQ, qR, zJ, qS, qC, qT, qU, qV, qW, qX, qY, qZ, zK, fixed, zL, wit, Option.isSome_some, qH, St.with, zE, Array.size, te, einl, inls, efr]
  rcases solve_cases hv with ⟨a, p, hs, ho⟩ | ⟨p, hs, hp, hnf⟩
  · obtain ⟨l1, l2, l3, _⟩ := least_yes hv hs ho
    have k22 := c22 b a
    have k23 := c23 b p
    have k24 := c24 b a
    rw [ho.check] at k24
    rw [l2] at k22
    rw [ho.bound] at k23
    rw [hs] at k20
    rw [l1] at k19
    unfold encR at k22 k23
    unfold encLst at k19
    unfold encOut at k20
    dsimp only at k19 k20 k22 k23
    rw [l3] at k22 k23
    generalize (makeR (costM b a.x) a.den).1 = m1 at *
    generalize (makeR (costM b a.x) a.den).2.1 = m2 at *
    clear l1 l2 l3 ho hs
    obtain ⟨tot, cs, lo, hi⟩ := b
    obtain ⟨ad, ax⟩ := a
    obtain ⟨pd, y, u, v, w⟩ := p
    simp only [encBlend, encAmts, encPr] at k19 k20 k22 k23 k24 ⊢
    simp (maxSteps := 1000000) (implicitDefEqProofs := false) only [Try.ntmps5, Try.results5, efc5, k0, k19, k20, k22, k23, k24, beq_self_eq_true, bne_self_eq_false, Bool.and_self, Bool.not_true, ss, sd, zI, qG, zG, zH, St.get, qE, qF, qB, zD, norm, look, zF, qA, qI, St.alloc, St.drop, zA, part, zC, depth, qD, ↓reduceIte, Nat.reduceBEq, Nat.reduceAdd, Nat.reduceSub, Nat.reduceMul, Nat.reduceEqDiff, Nat.reduceLeDiff, Nat.reduceLT, qJ, qK, qL, qM, qN, qO, qP, qQ, qR, zJ, qS, qC, qT, qU, qV, qW, qX, qY, qZ, zK, fixed, zL, wit, Option.isSome_some, qH, St.with, zE, Array.size, te, einl, inls, efr]
  · have hl := least_no hs
    have k21 := c21 b p
    rw [hp] at k21
    rw [hs] at k20
    rw [hl] at k19
    unfold encLst at k19
    unfold encOut at k20
    obtain ⟨tot, cs, lo, hi⟩ := b
    obtain ⟨pd, y, u, v, w⟩ := p
    simp only [encBlend, encPr, a0, List.map_nil] at k19 k20 k21 ⊢
    simp (maxSteps := 1000000) (implicitDefEqProofs := false) only [Try.ntmps5, Try.results5, efc5, k0, k19, k20, k21, beq_self_eq_true, bne_self_eq_false, Bool.and_self, Bool.not_false, ss, sd, zI, qG, zG, zH, St.get, qE, qF, qB, zD, norm, look, zF, qA, qI, St.alloc, St.drop, zA, part, zC, depth, qD, ↓reduceIte, Nat.reduceBEq, Nat.reduceAdd, Nat.reduceSub, Nat.reduceMul, Nat.reduceEqDiff, Nat.reduceLeDiff, Nat.reduceLT, qJ, qK, qL, qM, qN, qO, qP, qQ, qR, zJ, qS, qC, qT, qU, qV, qW, qX, qY, qZ, zK, fixed, zL, wit, Option.isSome_some, qH, St.with, zE, Array.size, te, einl, inls, efr]
end Go.AM.E

