import Derived.Test.YtffbfhjcpgcdeaaCTopA
import Derived.Test.YtffbfhjcpgcdeaaCTopB
set_option linter.unusedVariables false
set_option linter.unusedSimpArgs false
set_option maxRecDepth 20000

namespace Go.AM.C
open Go Go.Proofs

set_option maxRecDepth 20000 in
set_option maxHeartbeats 40000000 in
theorem c15 (xs : List Run) (l : List Art) (us : List Int) (ps : List (Int × Int)) : (orcω E X0).call 15 [.sl false (xs.map encRun), .sl false (l.map encArt), .agg [.sl false (us.map vI), .sl false (ps.map encPc)]] = some (.bool true) := by
  by_cases h : (¬ (100 : Int) < xs.length) ∧ (¬ (40 : Int) < l.length) ∧ (¬ (400 : Int) < ps.length) ∧ (¬ (1000 : Int) < us.length) ∧ errM xs l = 0
  · obtain ⟨hx, hl, hp, hu, he⟩ := h
    by_cases hb : (boundR xs l us).2 = 0
    · exact c15A xs l us ps hx hl hp hu he hb
    · exact c15B xs l us ps hx hl hp hu he hb
  refine call_of rfl fn15 rfl ?_
  have hok := okT15
  simp only [Try.f15, Option.getD_some, okCode, Bool.and_eq_true, Bool.and_true, Bool.true_and] at hok
  have k0 := c27 [] [] (by simp) (by simp)
  have w0 : worthR [] [] = (valsW [] [] 0, 0) := by unfold worthR; rw [if_pos (by decide)]; rfl
  have v0 := vals_len [] [] 0
  rw [w0] at k0
  simp only [encIs, List.map_nil] at k0
  generalize valsW [] [] 0 = v0s at *
  have z0 : (((0 + 1 : Nat) : Int) != 1) = false := rfl
  have k1 := c46 false xs
  by_cases hx : (100 : Int) < xs.length
  · simp (maxSteps := 1000000) (implicitDefEqProofs := false) only [Try.ntmps15, Try.results15, efc15, fc15, k0, k1, v0, z0, hx, bne_self_eq_false, List.length_map, ss, sd, zH, qG, zF, zG, St.get, qE, qF, qB, zC, norm, look, zE, qA, qI, St.alloc, St.drop, zA, part, zB, depth, qD, ↓reduceIte, Nat.reduceBEq, Nat.reduceAdd, Nat.reduceSub, Nat.reduceMul, Nat.reduceEqDiff, Nat.reduceLeDiff, Nat.reduceLT, qJ, qK, qL, qM, qN, qO, qP, qQ, qR, zI, qS, qC, qT, qU, qV, qW, qX, qY, qZ, zJ, zK, zL, wit, Option.isSome_some, qH, St.with, zD, Array.size, te, einl, inls, efr]
  by_cases hl : (40 : Int) < l.length
  · simp (maxSteps := 1000000) (implicitDefEqProofs := false) only [Try.ntmps15, Try.results15, efc15, fc15, k0, k1, v0, z0, hx, hl, bne_self_eq_false, List.length_map, ss, sd, zH, qG, zF, zG, St.get, qE, qF, qB, zC, norm, look, zE, qA, qI, St.alloc, St.drop, zA, part, zB, depth, qD, ↓reduceIte, Nat.reduceBEq, Nat.reduceAdd, Nat.reduceSub, Nat.reduceMul, Nat.reduceEqDiff, Nat.reduceLeDiff, Nat.reduceLT, qJ, qK, qL, qM, qN, qO, qP, qQ, qR, zI, qS, qC, qT, qU, qV, qW, qX, qY, qZ, zJ, zK, zL, wit, Option.isSome_some, qH, St.with, zD, Array.size, te, einl, inls, efr]
  by_cases hp : (400 : Int) < ps.length
  · simp (maxSteps := 1000000) (implicitDefEqProofs := false) only [Try.ntmps15, Try.results15, efc15, fc15, k0, k1, v0, z0, hx, hl, hp, bne_self_eq_false, List.length_map, ss, sd, zH, qG, zF, zG, St.get, qE, qF, qB, zC, norm, look, zE, qA, qI, St.alloc, St.drop, zA, part, zB, depth, qD, ↓reduceIte, Nat.reduceBEq, Nat.reduceAdd, Nat.reduceSub, Nat.reduceMul, Nat.reduceEqDiff, Nat.reduceLeDiff, Nat.reduceLT, qJ, qK, qL, qM, qN, qO, qP, qQ, qR, zI, qS, qC, qT, qU, qV, qW, qX, qY, qZ, zJ, zK, zL, wit, Option.isSome_some, qH, St.with, zD, Array.size, te, einl, inls, efr]
  by_cases hu : (1000 : Int) < us.length
  · simp (maxSteps := 1000000) (implicitDefEqProofs := false) only [Try.ntmps15, Try.results15, efc15, fc15, k0, k1, v0, z0, hx, hl, hp, hu, bne_self_eq_false, List.length_map, ss, sd, zH, qG, zF, zG, St.get, qE, qF, qB, zC, norm, look, zE, qA, qI, St.alloc, St.drop, zA, part, zB, depth, qD, ↓reduceIte, Nat.reduceBEq, Nat.reduceAdd, Nat.reduceSub, Nat.reduceMul, Nat.reduceEqDiff, Nat.reduceLeDiff, Nat.reduceLT, qJ, qK, qL, qM, qN, qO, qP, qQ, qR, zI, qS, qC, qT, qU, qV, qW, qX, qY, qZ, zJ, zK, zL, wit, Option.isSome_some, qH, St.with, zD, Array.size, te, einl, inls, efr]
  have k2 := c29 xs l (by omega) (by omega)
  have k3 := c34 xs l ps (by omega) (by omega) (by omega)
  by_cases he : errM xs l = 0
  case neg =>
    have he' : (errM xs l != 0) = true := by simpa using he
    unfold bestR at k2
    rw [if_neg he] at k2
    unfold accE at k3
    rw [if_neg he] at k3
    simp only [encBest, List.map_nil] at k2
    simp (maxSteps := 1000000) (implicitDefEqProofs := false) only [Try.ntmps15, Try.results15, efc15, fc15, k0, k1, v0, z0, hx, hl, hp, hu, k2, k3, he', bne_self_eq_false, beq_self_eq_true, List.length_map, ss, sd, zH, qG, zF, zG, St.get, qE, qF, qB, zC, norm, look, zE, qA, qI, St.alloc, St.drop, zA, part, zB, depth, qD, ↓reduceIte, Nat.reduceBEq, Nat.reduceAdd, Nat.reduceSub, Nat.reduceMul, Nat.reduceEqDiff, Nat.reduceLeDiff, Nat.reduceLT, qJ, qK, qL, qM, qN, qO, qP, qQ, qR, zI, qS, qC, qT, qU, qV, qW, qX, qY, qZ, zJ, zK, zL, wit, Option.isSome_some, qH, St.with, zD, Array.size, te, einl, inls, efr]
  exact absurd ⟨hx, hl, hp, hu, he⟩ h

end Go.AM.C

