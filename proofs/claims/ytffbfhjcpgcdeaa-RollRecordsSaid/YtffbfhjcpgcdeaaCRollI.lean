import Derived.Test.YtffbfhjcpgcdeaaCRollH
set_option linter.unusedVariables false
set_option linter.unusedSimpArgs false
set_option maxRecDepth 20000

namespace Go.AM.C
open Go Go.Proofs

def at0 (us : List Int) (i : Nat) : Int := us.getD i 0

theorem at0_get {us : List Int} {i : Nat} (h : i < us.length) : us[i]? = some (at0 us i) := by
  unfold at0
  rw [List.getD_eq_getElem?_getD, List.getElem?_eq_getElem h, Option.getD_some]

def sortB (us : List Int) : Bool := (List.range (us.length - 1)).all fun i => decide (at0 us i ≤ at0 us (i + 1))
theorem sortB_iff {us : List Int} : sortB us = true ↔ ∀ i : Nat, i + 1 < us.length → at0 us i ≤ at0 us (i + 1) := by
  unfold sortB
  rw [List.all_eq_true]
  constructor
  · intro h i hi
    simpa using h i (List.mem_range.2 (by omega))
  · intro h i hi
    have := List.mem_range.1 hi
    simpa using h i (by omega)

theorem sort_le {us : List Int} (h : sortB us = true) : ∀ {i j : Nat}, i ≤ j → j < us.length → at0 us i ≤ at0 us j := by
  intro i j hij
  induction j with
  | zero => intro _; rw [show i = 0 by omega]; exact Int.le_refl _
  | succ j ih =>
    intro hj
    by_cases e : i = j + 1
    · rw [e]; exact Int.le_refl _
    · exact Int.le_trans (ih (by omega) (by omega)) (sortB_iff.1 h j hj)

theorem c106 (x : Int) : (orcω E X0).call 106 [.int .i64 x] = some (.bool false) := by
  refine call_of rfl fn106 rfl ?_
  simp (maxSteps := 1000000) (implicitDefEqProofs := false) only [Try.ntmps106, Try.results106, efc106, bne_self_eq_false, ss, sd, zH, qG, zF, zG, St.get, qE, qF, qB, zC, norm, look, zE, qA, qI, St.alloc, St.drop, zA, part, zB, depth, qD, ↓reduceIte, Nat.reduceBEq, Nat.reduceAdd, Nat.reduceSub, Nat.reduceMul, Nat.reduceEqDiff, Nat.reduceLeDiff, Nat.reduceLT, qJ, qK, qL, qM, qN, qO, qP, qQ, qR, zI, qS, qC, qT, evSlice0, qV, qW, qX, qY, qZ, zJ, zK, zL, wit, Option.isSome_some, qH, xJ, evPre, St.with, zD, Array.size, evLitX, evAppX, evCold, nameT, te, einl, inls, efr]

theorem c89 (x y : Int) : (orcω E X0).call 89 [.int .i64 x, .int .i64 y] = some (.bool (decide (x < y))) := by
  refine call_of rfl fn89 rfl ?_
  have k1 := c106 x
  simp (maxSteps := 1000000) (implicitDefEqProofs := false) only [Try.ntmps89, Try.results89, efc89, k1, ss, sd, zH, qG, zF, zG, St.get, qE, qF, qB, zC, norm, look, zE, qA, qI, St.alloc, St.drop, zA, part, zB, depth, qD, ↓reduceIte, Nat.reduceBEq, Nat.reduceAdd, Nat.reduceSub, Nat.reduceMul, Nat.reduceEqDiff, Nat.reduceLeDiff, Nat.reduceLT, qJ, qK, qL, qM, qN, qO, qP, qQ, qR, zI, qS, qC, qT, evSlice0, qV, qW, qX, qY, qZ, zJ, zK, zL, wit, Option.isSome_some, qH, xJ, evPre, St.with, zD, Array.size, evLitX, evAppX, evCold, nameT, te, einl, inls, efr]

theorem okT73 : okCode (Try.f73.body.getD .skip) = true := by decide +kernel

set_option maxHeartbeats 4000000 in
theorem c73 (t : Bool) (us : List Int) (hn : us.length ≤ 1000000) : (orcω E X0).call 73 [.sl t (us.map vI)] = some (.bool (sortB us)) := by
  refine call_of rfl fn73 rfl ?_
  have hok := okT73
  simp only [Try.f73, Option.getD_some, okCode, Bool.and_eq_true, Bool.and_true, Bool.true_and] at hok
  have w0 : IntKind.i64.wrap ((us.length : Int) - 1) = us.length - 1 := wrap_in (by omega)
  simp (maxSteps := 1000000) (implicitDefEqProofs := false) only [Try.ntmps73, Try.results73, efc73, fc73, w0, ss, sd, zH, qG, zF, zG, St.get, qE, qF, qB, zC, norm, look, zE, qA, qI, St.alloc, St.drop, zA, part, zB, depth, qD, ↓reduceIte, Nat.reduceBEq, Nat.reduceAdd, Nat.reduceSub, Nat.reduceMul, Nat.reduceEqDiff, Nat.reduceLeDiff, Nat.reduceLT, qJ, qK, qL, qM, qN, qO, qP, qQ, qR, zI, qS, qC, qT, evSlice0, qV, qW, qX, qY, qZ, zJ, zK, zL, wit, Option.isSome_some, qH, xJ, evPre, St.with, zD, Array.size, evLitX, evAppX, evCold, nameT, te, einl, inls, efr]
  generalize hr : loopAt _ _ _ _ _ _ = r; revert r
  refine loop_inv (ι := { i : Int // -1 ≤ i ∧ i ≤ us.length - 1 ∧ ∀ j : Nat, i ≤ j → j + 1 < us.length → at0 us j ≤ at0 us (j + 1) }) (fun i => [(3, .int .i64 i.1)]) (fun i => []) (fun i => i.1.toNat) ⟨(us.length : Int) - 1, by omega, by omega, fun j h1 h2 => by omega⟩ (by simp (maxSteps := 1000000) (implicitDefEqProofs := false) only [ss, sd, zH, qG, zF, zG, St.get, qE, qF, qB, zC, norm, look, zE, qA, qI, St.alloc, St.drop, zA, part, zB, depth, qD, ↓reduceIte, Nat.reduceBEq, Nat.reduceAdd, Nat.reduceSub, Nat.reduceMul, Nat.reduceEqDiff, Nat.reduceLeDiff, Nat.reduceLT, qJ, qK, qL, qM, qN, qO, qP, qQ, qR, zI, qS, qC, qT, evSlice0, qV, qW, qX, qY, qZ, zJ, zK, zL, wit, Option.isSome_some, qH, xJ, evPre, St.with, zD, Array.size, evLitX, evAppX, evCold, nameT, te, einl, inls, efr]) ?_
  rintro ⟨i, h1, h2, h3⟩
  dsimp only
  by_cases hlt : 0 < i
  · have g1 : us[i.toNat]? = some (at0 us i.toNat) := at0_get (by omega)
    have g2 : us[(i - 1).toNat]? = some (at0 us (i - 1).toNat) := at0_get (by omega)
    have w1 : IntKind.i64.wrap (i - 1) = i - 1 := wrap_in (by omega)
    have g3 : 0 ≤ i := by omega
    have g4 : i < (us.length : Int) := by omega
    have g5 : 0 ≤ i - 1 := by omega
    have g6 : i - 1 < (us.length : Int) := by omega
    have k1 := c89 (at0 us i.toNat) (at0 us (i - 1).toNat)
    by_cases hc : at0 us i.toNat < at0 us (i - 1).toNat
    · rw [decide_eq_true hc] at k1
      have : sortB us = false := by
        cases hs : sortB us with
        | false => rfl
        | true =>
          have := sortB_iff.1 hs (i - 1).toNat (by omega)
          rw [show (i - 1).toNat + 1 = i.toNat by omega] at this
          omega
      rw [this]
      simp (maxSteps := 1000000) (implicitDefEqProofs := false) only [hlt, g1, g2, g3, g4, g5, g6, w1, k1, vI, List.getElem?_map, evRegion_st hok, Try.ntmps73, Try.results73, efc73, fc73, ss, sd, zH, qG, zF, zG, St.get, qE, qF, qB, zC, norm, look, zE, qA, qI, St.alloc, St.drop, zA, part, zB, depth, qD, ↓reduceIte, Nat.reduceBEq, Nat.reduceAdd, Nat.reduceSub, Nat.reduceMul, Nat.reduceEqDiff, Nat.reduceLeDiff, Nat.reduceLT, qJ, qK, qL, qM, qN, qO, qP, qQ, qR, zI, qS, qC, qT, evSlice0, qV, qW, qX, qY, qZ, zJ, zK, zL, wit, Option.isSome_some, qH, xJ, evPre, St.with, zD, Array.size, evLitX, evAppX, evCold, nameT, te, einl, inls, efr]
    · rw [decide_eq_false hc] at k1
      simp (maxSteps := 1000000) (implicitDefEqProofs := false) only [hlt, g1, g2, g3, g4, g5, g6, w1, k1, vI, List.getElem?_map, evRegion_st hok, ss, sd, zH, qG, zF, zG, St.get, qE, qF, qB, zC, norm, look, zE, qA, qI, St.alloc, St.drop, zA, part, zB, depth, qD, ↓reduceIte, Nat.reduceBEq, Nat.reduceAdd, Nat.reduceSub, Nat.reduceMul, Nat.reduceEqDiff, Nat.reduceLeDiff, Nat.reduceLT, qJ, qK, qL, qM, qN, qO, qP, qQ, qR, zI, qS, qC, qT, evSlice0, qV, qW, qX, qY, qZ, zJ, zK, zL, wit, Option.isSome_some, qH, xJ, evPre, St.with, zD, Array.size, evLitX, evAppX, evCold, nameT, te, einl, inls, efr]
      refine ⟨⟨i - 1, by omega, by omega, fun j hj hj2 => ?_⟩, rfl, by dsimp only; omega⟩
      by_cases e : i ≤ (j : Int)
      · exact h3 j e hj2
      · rw [show j = (i - 1).toNat by omega, show (i - 1).toNat + 1 = i.toNat by omega]; omega
  · have : sortB us = true := sortB_iff.2 fun j hj => h3 j (by omega) hj
    rw [this]
    simp (maxSteps := 1000000) (implicitDefEqProofs := false) only [hlt, evRegion_st hok, Try.ntmps73, Try.results73, efc73, fc73, ss, sd, zH, qG, zF, zG, St.get, qE, qF, qB, zC, norm, look, zE, qA, qI, St.alloc, St.drop, zA, part, zB, depth, qD, ↓reduceIte, Nat.reduceBEq, Nat.reduceAdd, Nat.reduceSub, Nat.reduceMul, Nat.reduceEqDiff, Nat.reduceLeDiff, Nat.reduceLT, qJ, qK, qL, qM, qN, qO, qP, qQ, qR, zI, qS, qC, qT, evSlice0, qV, qW, qX, qY, qZ, zJ, zK, zL, wit, Option.isSome_some, qH, xJ, evPre, St.with, zD, Array.size, evLitX, evAppX, evCold, nameT, te, einl, inls, efr]

def rightB (us : List Int) (n : Nat) : Bool := decide (us.length = n + 1) && (decide (at0 us 0 = 0) && (sortB us && decide (at0 us n ≤ 1099511627776)))

theorem c57 (us : List Int) (n : Nat) (hn : us.length ≤ 1000000) (hm : n ≤ 1000000) : (orcω E X0).call 57 [.sl false (us.map vI), .int .i64 n] = some (.bool (rightB us n)) := by
  refine call_of rfl fn57 rfl ?_
  have w1 : IntKind.i64.wrap ((n : Int) + 1) = n + 1 := wrap_in (by omega)
  have k1 := c73 false us hn
  unfold rightB
  by_cases h1 : us.length = n + 1
  · have b1 : ((us.length : Int) != (n : Int) + 1) = false := by simp; omega
    have g1 : us[0]? = some (at0 us 0) := at0_get (by omega)
    have g2 : us[n]? = some (at0 us n) := at0_get (by omega)
    have g3 : (0 : Int) < us.length := by omega
    have g4 : (n : Int) < us.length := by omega
    rw [decide_eq_true h1, Bool.true_and]
    by_cases h2 : at0 us 0 = 0
    · have b2 : (at0 us 0 != 0) = false := by simp [h2]
      rw [decide_eq_true h2, Bool.true_and]
      cases hs : sortB us with
      | true =>
        rw [hs] at k1
        simp (maxSteps := 1000000) (implicitDefEqProofs := false) only [w1, b1, b2, g1, g2, g3, g4, k1, vI, List.getElem?_map, Int.natCast_nonneg, Int.toNat_natCast, Int.toNat_zero, Int.le_refl, Bool.true_and, Try.ntmps57, Try.results57, efc57, ss, sd, zH, qG, zF, zG, St.get, qE, qF, qB, zC, norm, look, zE, qA, qI, St.alloc, St.drop, zA, part, zB, depth, qD, ↓reduceIte, Nat.reduceBEq, Nat.reduceAdd, Nat.reduceSub, Nat.reduceMul, Nat.reduceEqDiff, Nat.reduceLeDiff, Nat.reduceLT, qJ, qK, qL, qM, qN, qO, qP, qQ, qR, zI, qS, qC, qT, evSlice0, qV, qW, qX, qY, qZ, zJ, zK, zL, wit, Option.isSome_some, qH, xJ, evPre, St.with, zD, Array.size, evLitX, evAppX, evCold, nameT, te, einl, inls, efr]
      | false =>
        rw [hs] at k1
        simp (maxSteps := 1000000) (implicitDefEqProofs := false) only [w1, b1, b2, g1, g2, g3, g4, k1, vI, List.getElem?_map, Int.natCast_nonneg, Int.toNat_natCast, Int.toNat_zero, Int.le_refl, Try.ntmps57, Try.results57, efc57, ss, sd, zH, qG, zF, zG, St.get, qE, qF, qB, zC, norm, look, zE, qA, qI, St.alloc, St.drop, zA, part, zB, depth, qD, ↓reduceIte, Nat.reduceBEq, Nat.reduceAdd, Nat.reduceSub, Nat.reduceMul, Nat.reduceEqDiff, Nat.reduceLeDiff, Nat.reduceLT, qJ, qK, qL, qM, qN, qO, qP, qQ, qR, zI, qS, qC, qT, evSlice0, qV, qW, qX, qY, qZ, zJ, zK, zL, wit, Option.isSome_some, qH, xJ, evPre, St.with, zD, Array.size, evLitX, evAppX, evCold, nameT, te, einl, inls, efr]
    · have b2 : (at0 us 0 != 0) = true := by simp [h2]
      rw [decide_eq_false h2, Bool.false_and]
      simp (maxSteps := 1000000) (implicitDefEqProofs := false) only [w1, b1, b2, g1, g2, g3, g4, k1, vI, List.getElem?_map, Int.natCast_nonneg, Int.toNat_natCast, Int.toNat_zero, Int.le_refl, Try.ntmps57, Try.results57, efc57, ss, sd, zH, qG, zF, zG, St.get, qE, qF, qB, zC, norm, look, zE, qA, qI, St.alloc, St.drop, zA, part, zB, depth, qD, ↓reduceIte, Nat.reduceBEq, Nat.reduceAdd, Nat.reduceSub, Nat.reduceMul, Nat.reduceEqDiff, Nat.reduceLeDiff, Nat.reduceLT, qJ, qK, qL, qM, qN, qO, qP, qQ, qR, zI, qS, qC, qT, evSlice0, qV, qW, qX, qY, qZ, zJ, zK, zL, wit, Option.isSome_some, qH, xJ, evPre, St.with, zD, Array.size, evLitX, evAppX, evCold, nameT, te, einl, inls, efr]
  · have b1 : ((us.length : Int) != (n : Int) + 1) = true := by simp; omega
    rw [decide_eq_false h1, Bool.false_and]
    simp (maxSteps := 1000000) (implicitDefEqProofs := false) only [w1, b1, Try.ntmps57, Try.results57, efc57, ss, sd, zH, qG, zF, zG, St.get, qE, qF, qB, zC, norm, look, zE, qA, qI, St.alloc, St.drop, zA, part, zB, depth, qD, ↓reduceIte, Nat.reduceBEq, Nat.reduceAdd, Nat.reduceSub, Nat.reduceMul, Nat.reduceEqDiff, Nat.reduceLeDiff, Nat.reduceLT, qJ, qK, qL, qM, qN, qO, qP, qQ, qR, zI, qS, qC, qT, evSlice0, qV, qW, qX, qY, qZ, zJ, zK, zL, wit, Option.isSome_some, qH, xJ, evPre, St.with, zD, Array.size, evLitX, evAppX, evCold, nameT, te, einl, inls, efr]

end Go.AM.C

