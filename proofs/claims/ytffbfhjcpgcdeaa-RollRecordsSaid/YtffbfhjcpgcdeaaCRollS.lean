import Derived.Test.YtffbfhjcpgcdeaaCRollR
set_option linter.unusedVariables false
set_option linter.unusedSimpArgs false
set_option maxRecDepth 20000

namespace Go.AM.C
open Go Go.Proofs

theorem value_best {xs : List Run} {l : List Art} (he : errM xs l = 0) : valueR xs l (bestPs (expand xs) l) = (at0 (valsW (expand xs) l (expand xs).length) (expand xs).length, 0) := by
  obtain ⟨a, b, c⟩ := bestPs_ok (ms := expand xs) (errM_zero he).2.2
  unfold valueR accE
  rw [if_pos he, if_pos a, b]

theorem c6 (xs : List Run) (l : List Art) : (orcω E X0).call 6 [.sl false (xs.map encRun), .sl false (l.map encArt)] = some (.bool true) := by
  refine call_of rfl fn6 rfl ?_
  have k1 := c16 xs l false []
  cases hlong : long xs l 0 with
  | true =>
    rw [List.length_nil, hlong] at k1
    simp (maxSteps := 1000000) (implicitDefEqProofs := false) only [Try.ntmps6, Try.results6, efc6, k1, c17, ss, sd, zH, qG, zF, zG, St.get, qE, qF, qB, zC, norm, look, zE, qA, qI, St.alloc, St.drop, zA, part, zB, depth, qD, ↓reduceIte, Nat.reduceBEq, Nat.reduceAdd, Nat.reduceSub, Nat.reduceMul, Nat.reduceEqDiff, Nat.reduceLeDiff, Nat.reduceLT, qJ, qK, qL, qM, qN, qO, qP, qQ, qR, zI, qS, qC, qT, evSlice0, qV, qW, qX, qY, qZ, zJ, zK, zL, wit, Option.isSome_some, qH, xJ, evPre, St.with, zD, Array.size, evLitX, evAppX, evCold, nameT, te, einl, inls, efr]
  | false =>
    rw [List.length_nil, hlong] at k1
    unfold long at hlong
    simp only [Bool.or_eq_false_iff, decide_eq_false_iff_not] at hlong
    have k2 := c27 xs l (by omega) (by omega)
    have k3 := c28 xs l (by omega) (by omega)
    have k4 := c29 xs l (by omega) (by omega)
    by_cases he : errM xs l = 0
    · have hN := err_len he
      have bl := (bestPs_ok (ms := expand xs) (errM_zero he).2.2).2.2
      have k5 := c30 xs l (bestPs (expand xs) l) (by omega) (by omega) (by omega)
      rw [value_best he] at k5
      unfold worthR at k2 k3
      unfold bestR at k4
      rw [if_pos he] at k2 k3 k4
      have vl := vals_len (expand xs) l (expand xs).length
      have k6 := c26 false false (valsW (expand xs) l (expand xs).length) (valsW (expand xs) l (expand xs).length) (by omega)
      have d1 : (valsW (expand xs) l (expand xs).length)[(expand xs).length]? = some (at0 (valsW (expand xs) l (expand xs).length) (expand xs).length) := at0_get (by omega)
      generalize valsW (expand xs) l (expand xs).length = vs at *
      generalize bestPs (expand xs) l = ps at *
      have w1 : IntKind.i64.wrap ((((expand xs).length + 1 : Nat) : Int) - 1) = ((expand xs).length : Nat) := by rw [wrap_in (by omega)]; omega
      have u2 : (((expand xs).length : Int) < (((expand xs).length + 1 : Nat) : Int)) = True := eq_true (by omega)
      simp only [encIs, encBest, encLen, decide_true] at k2 k3 k4 k5 k6
      simp (maxSteps := 1000000) (implicitDefEqProofs := false) only [Try.ntmps6, Try.results6, efc6, k1, k2, k3, k4, k5, k6, vl, d1, w1, u2, vI, List.length_map, List.getElem?_map, Int.natCast_nonneg, Int.toNat_natCast, c17, bne_self_eq_false, beq_self_eq_true, ss, sd, zH, qG, zF, zG, St.get, qE, qF, qB, zC, norm, look, zE, qA, qI, St.alloc, St.drop, zA, part, zB, depth, qD, ↓reduceIte, Nat.reduceBEq, Nat.reduceAdd, Nat.reduceSub, Nat.reduceMul, Nat.reduceEqDiff, Nat.reduceLeDiff, Nat.reduceLT, qJ, qK, qL, qM, qN, qO, qP, qQ, qR, zI, qS, qC, qT, evSlice0, qV, qW, qX, qY, qZ, zJ, zK, zL, wit, Option.isSome_some, qH, xJ, evPre, St.with, zD, Array.size, evLitX, evAppX, evCold, nameT, te, einl, inls, efr]
    · have he' : (errM xs l != 0) = true := by simpa using he
      unfold worthR at k2 k3
      unfold bestR at k4
      rw [if_neg he] at k2 k3 k4
      have k6 := c26 false false [] [] (by simp)
      simp only [encIs, encBest, decide_true, List.map_nil] at k2 k3 k4 k6
      have z0 : (((0 : Nat) : Int) == 0) = true := rfl
      simp (maxSteps := 1000000) (implicitDefEqProofs := false) only [Try.ntmps6, Try.results6, efc6, k1, k2, k3, k4, k6, he', z0, List.map_nil, List.length_nil, c17, bne_self_eq_false, beq_self_eq_true, ss, sd, zH, qG, zF, zG, St.get, qE, qF, qB, zC, norm, look, zE, qA, qI, St.alloc, St.drop, zA, part, zB, depth, qD, ↓reduceIte, Nat.reduceBEq, Nat.reduceAdd, Nat.reduceSub, Nat.reduceMul, Nat.reduceEqDiff, Nat.reduceLeDiff, Nat.reduceLT, qJ, qK, qL, qM, qN, qO, qP, qQ, qR, zI, qS, qC, qT, evSlice0, qV, qW, qX, qY, qZ, zJ, zK, zL, wit, Option.isSome_some, qH, xJ, evPre, St.with, zD, Array.size, evLitX, evAppX, evCold, nameT, te, einl, inls, efr]

end Go.AM.C

