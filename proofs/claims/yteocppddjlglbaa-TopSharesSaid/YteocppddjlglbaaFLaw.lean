/-
The law of shares: what the statement says holds for all lots.
-/
import Derived.Test.YteocppddjlglbaaFLawA
import Derived.Test.YteocppddjlglbaaFLawB
set_option linter.unusedVariables false
set_option linter.unusedSimpArgs false
set_option maxRecDepth 20000

namespace Go.AM.F
open Go Go.AM Go.Proofs

theorem law_in {l : List Lot} (g : Good l) (o i : Nat) (ho : o < l.length) (hi : i < l.length) : LawIs l o i := by
  obtain ⟨sl, c, r, x, y, z, u, ok, s', hrs, hss, hok, kp⟩ := path_is g o i hi 3000 ⟨by decide, by decide⟩
  cases ok with
  | false => exact law_no g o i ho hi kp
  | true => exact law_yes g o i ho hi (hok rfl).1 (hok rfl).2 kp

set_option maxHeartbeats 64000000 in
theorem c3 (l : List Lot) (o i : Int) : (orcω E X0).call 3 [encLots l, .agg [.int .i64 o, .int .i64 i]] = some (.bool true) := by
  by_cases hin : longM l = false ∧ validE l = 0 ∧ (0 ≤ o ∧ o < l.length) ∧ (0 ≤ i ∧ i < l.length)
  · obtain ⟨h1, h2, h3, h4⟩ := hin
    obtain ⟨on, rfl⟩ : ∃ n : Nat, o = n := ⟨o.toNat, by omega⟩
    obtain ⟨im, rfl⟩ : ∃ n : Nat, i = n := ⟨i.toNat, by omega⟩
    exact law_in ⟨h1, h2⟩ on im (by omega) (by omega)
  refine call_of rfl fn3 rfl ?_
  have k0 := one_share
  have k5 := c5 l
  simp only [encLots] at k5
  cases hL : longM l with
  | true =>
    rw [hL] at k5
    simp (maxSteps := 1000000) (implicitDefEqProofs := false) only [encLots, k0, k5, bne_self_eq_false, Try.ntmps3, Try.results3, efc3, fc3, ss, sd, zH, qG, zF, zG, St.get, qE, qF, qB, zC, norm, look, zE, qA, qI, St.alloc, St.drop, zA, part, zB, depth, qD, ↓reduceIte, Nat.reduceBEq, Nat.reduceAdd, Nat.reduceSub, Nat.reduceMul, Nat.reduceEqDiff, Nat.reduceLeDiff, Nat.reduceLT, qJ, qK, qL, qM, qN, qO, qP, qQ, qR, zI, qS, qC, qT, evSlice0, qV, qW, qX, qY, qZ, zJ, zK, zL, wit, Option.isSome_some, qH, xK, evPre, St.with, zD, Array.size, toldV, isIntV, orArr, offB, effFr, effFr2, effFr3, mapIn, restSame, sameO, eqW, eqWL, pickR, te, einl, inls, efr]
    done
  | false =>
  rw [hL] at k5
  have hLc := hL
  simp only [longM, Bool.or_eq_false_iff, decide_eq_false_iff_not] at hLc
  have k6 := c6 l (by omega) (fun i hi => by
    have h2 := hLc.2
    rw [List.any_eq_false] at h2
    have := h2 l[i] (List.getElem_mem hi)
    simp only [decide_eq_true_eq] at this
    omega)
  simp only [encLots] at k6
  by_cases hV : ¬ validE l = 0
  · have r0 := bneI hV
    simp (maxSteps := 1000000) (implicitDefEqProofs := false) only [encLots, k0, k5, k6, r0, bne_self_eq_false, Try.ntmps3, Try.results3, efc3, fc3, ss, sd, zH, qG, zF, zG, St.get, qE, qF, qB, zC, norm, look, zE, qA, qI, St.alloc, St.drop, zA, part, zB, depth, qD, ↓reduceIte, Nat.reduceBEq, Nat.reduceAdd, Nat.reduceSub, Nat.reduceMul, Nat.reduceEqDiff, Nat.reduceLeDiff, Nat.reduceLT, qJ, qK, qL, qM, qN, qO, qP, qQ, qR, zI, qS, qC, qT, evSlice0, qV, qW, qX, qY, qZ, zJ, zK, zL, wit, Option.isSome_some, qH, xK, evPre, St.with, zD, Array.size, toldV, isIntV, orArr, offB, effFr, effFr2, effFr3, mapIn, restSame, sameO, eqW, eqWL, pickR, te, einl, inls, efr]
    done
  replace hV := Decidable.not_not.1 hV
  have r0 := beqI hV
  by_cases h1 : o < 0
  · simp (maxSteps := 1000000) (implicitDefEqProofs := false) only [encLots, k0, k5, k6, r0, h1, bne_self_eq_false, Try.ntmps3, Try.results3, efc3, fc3, ss, sd, zH, qG, zF, zG, St.get, qE, qF, qB, zC, norm, look, zE, qA, qI, St.alloc, St.drop, zA, part, zB, depth, qD, ↓reduceIte, Nat.reduceBEq, Nat.reduceAdd, Nat.reduceSub, Nat.reduceMul, Nat.reduceEqDiff, Nat.reduceLeDiff, Nat.reduceLT, qJ, qK, qL, qM, qN, qO, qP, qQ, qR, zI, qS, qC, qT, evSlice0, qV, qW, qX, qY, qZ, zJ, zK, zL, wit, Option.isSome_some, qH, xK, evPre, St.with, zD, Array.size, toldV, isIntV, orArr, offB, effFr, effFr2, effFr3, mapIn, restSame, sameO, eqW, eqWL, pickR, te, einl, inls, efr]
    done
  by_cases h2 : i < 0
  · simp (maxSteps := 1000000) (implicitDefEqProofs := false) only [encLots, k0, k5, k6, r0, h1, h2, bne_self_eq_false, Try.ntmps3, Try.results3, efc3, fc3, ss, sd, zH, qG, zF, zG, St.get, qE, qF, qB, zC, norm, look, zE, qA, qI, St.alloc, St.drop, zA, part, zB, depth, qD, ↓reduceIte, Nat.reduceBEq, Nat.reduceAdd, Nat.reduceSub, Nat.reduceMul, Nat.reduceEqDiff, Nat.reduceLeDiff, Nat.reduceLT, qJ, qK, qL, qM, qN, qO, qP, qQ, qR, zI, qS, qC, qT, evSlice0, qV, qW, qX, qY, qZ, zJ, zK, zL, wit, Option.isSome_some, qH, xK, evPre, St.with, zD, Array.size, toldV, isIntV, orArr, offB, effFr, effFr2, effFr3, mapIn, restSame, sameO, eqW, eqWL, pickR, te, einl, inls, efr]
    done
  by_cases h3 : (l.length : Int) ≤ o
  · simp (maxSteps := 1000000) (implicitDefEqProofs := false) only [encLots, k0, k5, k6, r0, h1, h2, h3, bne_self_eq_false, List.length_map, Try.ntmps3, Try.results3, efc3, fc3, ss, sd, zH, qG, zF, zG, St.get, qE, qF, qB, zC, norm, look, zE, qA, qI, St.alloc, St.drop, zA, part, zB, depth, qD, ↓reduceIte, Nat.reduceBEq, Nat.reduceAdd, Nat.reduceSub, Nat.reduceMul, Nat.reduceEqDiff, Nat.reduceLeDiff, Nat.reduceLT, qJ, qK, qL, qM, qN, qO, qP, qQ, qR, zI, qS, qC, qT, evSlice0, qV, qW, qX, qY, qZ, zJ, zK, zL, wit, Option.isSome_some, qH, xK, evPre, St.with, zD, Array.size, toldV, isIntV, orArr, offB, effFr, effFr2, effFr3, mapIn, restSame, sameO, eqW, eqWL, pickR, te, einl, inls, efr]
    done
  by_cases h4 : (l.length : Int) ≤ i
  · simp (maxSteps := 1000000) (implicitDefEqProofs := false) only [encLots, k0, k5, k6, r0, h1, h2, h3, h4, bne_self_eq_false, List.length_map, Try.ntmps3, Try.results3, efc3, fc3, ss, sd, zH, qG, zF, zG, St.get, qE, qF, qB, zC, norm, look, zE, qA, qI, St.alloc, St.drop, zA, part, zB, depth, qD, ↓reduceIte, Nat.reduceBEq, Nat.reduceAdd, Nat.reduceSub, Nat.reduceMul, Nat.reduceEqDiff, Nat.reduceLeDiff, Nat.reduceLT, qJ, qK, qL, qM, qN, qO, qP, qQ, qR, zI, qS, qC, qT, evSlice0, qV, qW, qX, qY, qZ, zJ, zK, zL, wit, Option.isSome_some, qH, xK, evPre, St.with, zD, Array.size, toldV, isIntV, orArr, offB, effFr, effFr2, effFr3, mapIn, restSame, sameO, eqW, eqWL, pickR, te, einl, inls, efr]
    done
  exact absurd ⟨hL, hV, by omega, by omega⟩ hin
end Go.AM.F

