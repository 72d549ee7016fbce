/-
Lots: the error of a lot, what is left, the error of a genealogy.
-/
import Derived.Test.YteocppddjlglbaaFLot
set_option linter.unusedVariables false
set_option linter.unusedSimpArgs false
set_option maxRecDepth 20000

namespace Go.AM.F
open Go Go.AM Go.Proofs

theorem eqI {a b : Int} (h : a = b) : (a == b) = true := by simp [h]
theorem neI {a b : Int} (h : ¬ a = b) : (a == b) = false := by simp [h]
theorem bneI {a b : Int} (h : ¬ a = b) : (a != b) = true := by simp [h]
theorem beqI {a b : Int} (h : a = b) : (a != b) = false := by simp [h]

theorem okT20 : okCode (Try.f20.body.getD .skip) = true := by decide +kernel
set_option maxHeartbeats 8000000 in
theorem c20 (l : List Lot) (i : Nat) (hi : i < l.length) (hl : l.length ≤ 40) (hp : l[i].parts.length ≤ 20) : (orcω E X0).call 20 [encLots l, .int .i64 (i : Nat)] = some (.int .i64 (lotE l i l[i])) := by
  refine call_of rfl fn20 rfl ?_
  have hok := okT20
  simp only [Try.f20, Option.getD_some, okCode, Bool.and_eq_true, Bool.and_true, Bool.true_and] at hok
  have g1 : (l.map encLot)[i]? = some (encLot l[i]) := by rw [List.getElem?_map, List.getElem?_eq_getElem hi]; rfl
  have k1 := c36 l i hi hl hp
  have k2 := fun (h : PartsOk l[i].parts) => c39 l[i] h
  generalize l[i] = x at *
  obtain ⟨k, m, ps⟩ := x
  dsimp only at hp k1 k2 ⊢
  have hi' : (i : Int) < l.length := by omega
  unfold encLots at k1
  unfold lotE
  dsimp only
  by_cases h1 : k < 0
  · simp (maxSteps := 1000000) (implicitDefEqProofs := false) only [encLots, encLot, List.length_map, Int.natCast_nonneg, Int.toNat_natCast, hi', g1, h1, true_or, if_true, Try.ntmps20, Try.results20, efc20, ss, sd, zH, qG, zF, zG, St.get, qE, qF, qB, zC, norm, look, zE, qA, qI, St.alloc, St.drop, zA, part, zB, depth, qD, ↓reduceIte, Nat.reduceBEq, Nat.reduceAdd, Nat.reduceSub, Nat.reduceMul, Nat.reduceEqDiff, Nat.reduceLeDiff, Nat.reduceLT, qJ, qK, qL, qM, qN, qO, qP, qQ, qR, zI, qS, qC, qT, evSlice0, qV, qW, qX, qY, qZ, zJ, zK, zL, wit, Option.isSome_some, qH, xK, evPre, St.with, zD, Array.size, toldV, isIntV, orArr, offB, effFr, effFr2, effFr3, mapIn, restSame, sameO, eqW, eqWL, pickR, te, einl, inls, efr]
  by_cases h2 : 8 ≤ k
  · have h2' : (8 : Int) ≤ k := h2
    simp (maxSteps := 1000000) (implicitDefEqProofs := false) only [encLots, encLot, List.length_map, Int.natCast_nonneg, Int.toNat_natCast, hi', g1, h1, h2, true_or, or_true, if_true, Try.ntmps20, Try.results20, efc20, ss, sd, zH, qG, zF, zG, St.get, qE, qF, qB, zC, norm, look, zE, qA, qI, St.alloc, St.drop, zA, part, zB, depth, qD, ↓reduceIte, Nat.reduceBEq, Nat.reduceAdd, Nat.reduceSub, Nat.reduceMul, Nat.reduceEqDiff, Nat.reduceLeDiff, Nat.reduceLT, qJ, qK, qL, qM, qN, qO, qP, qQ, qR, zI, qS, qC, qT, evSlice0, qV, qW, qX, qY, qZ, zJ, zK, zL, wit, Option.isSome_some, qH, xK, evPre, St.with, zD, Array.size, toldV, isIntV, orArr, offB, effFr, effFr2, effFr3, mapIn, restSame, sameO, eqW, eqWL, pickR, te, einl, inls, efr]
  by_cases h3 : m < 1
  · simp (maxSteps := 1000000) (implicitDefEqProofs := false) only [encLots, encLot, List.length_map, Int.natCast_nonneg, Int.toNat_natCast, hi', g1, h1, h2, h3, true_or, or_true, if_true, Try.ntmps20, Try.results20, efc20, ss, sd, zH, qG, zF, zG, St.get, qE, qF, qB, zC, norm, look, zE, qA, qI, St.alloc, St.drop, zA, part, zB, depth, qD, ↓reduceIte, Nat.reduceBEq, Nat.reduceAdd, Nat.reduceSub, Nat.reduceMul, Nat.reduceEqDiff, Nat.reduceLeDiff, Nat.reduceLT, qJ, qK, qL, qM, qN, qO, qP, qQ, qR, zI, qS, qC, qT, evSlice0, qV, qW, qX, qY, qZ, zJ, zK, zL, wit, Option.isSome_some, qH, xK, evPre, St.with, zD, Array.size, toldV, isIntV, orArr, offB, effFr, effFr2, effFr3, mapIn, restSame, sameO, eqW, eqWL, pickR, te, einl, inls, efr]
  by_cases h4 : 100000 < m
  · simp (maxSteps := 1000000) (implicitDefEqProofs := false) only [encLots, encLot, List.length_map, Int.natCast_nonneg, Int.toNat_natCast, hi', g1, h1, h2, h3, h4, or_true, if_true, Try.ntmps20, Try.results20, efc20, ss, sd, zH, qG, zF, zG, St.get, qE, qF, qB, zC, norm, look, zE, qA, qI, St.alloc, St.drop, zA, part, zB, depth, qD, ↓reduceIte, Nat.reduceBEq, Nat.reduceAdd, Nat.reduceSub, Nat.reduceMul, Nat.reduceEqDiff, Nat.reduceLeDiff, Nat.reduceLT, qJ, qK, qL, qM, qN, qO, qP, qQ, qR, zI, qS, qC, qT, evSlice0, qV, qW, qX, qY, qZ, zJ, zK, zL, wit, Option.isSome_some, qH, xK, evPre, St.with, zD, Array.size, toldV, isIntV, orArr, offB, effFr, effFr2, effFr3, mapIn, restSame, sameO, eqW, eqWL, pickR, te, einl, inls, efr]
  rw [if_neg (by omega)]
  by_cases h5 : ¬ partsE i ps = 0
  · have q5 := bneI h5
    rw [if_pos h5]
    simp (maxSteps := 1000000) (implicitDefEqProofs := false) only [encLots, encLot, List.length_map, Int.natCast_nonneg, Int.toNat_natCast, hi', g1, h1, h2, h3, h4, k1, q5, Try.ntmps20, Try.results20, efc20, ss, sd, zH, qG, zF, zG, St.get, qE, qF, qB, zC, norm, look, zE, qA, qI, St.alloc, St.drop, zA, part, zB, depth, qD, ↓reduceIte, Nat.reduceBEq, Nat.reduceAdd, Nat.reduceSub, Nat.reduceMul, Nat.reduceEqDiff, Nat.reduceLeDiff, Nat.reduceLT, qJ, qK, qL, qM, qN, qO, qP, qQ, qR, zI, qS, qC, qT, evSlice0, qV, qW, qX, qY, qZ, zJ, zK, zL, wit, Option.isSome_some, qH, xK, evPre, St.with, zD, Array.size, toldV, isIntV, orArr, offB, effFr, effFr2, effFr3, mapIn, restSame, sameO, eqW, eqWL, pickR, te, einl, inls, efr]
  replace h5 : partsE i ps = 0 := Decidable.not_not.1 h5
  have q5 := beqI h5
  rw [if_neg (by simp [h5])]
  obtain ⟨hpo, hea⟩ := partsE_ok h5
  by_cases hps : ps = []
  · subst hps
    rw [if_pos rfl]
    by_cases h6 : k = 5
    · subst h6
      simp (maxSteps := 1000000) (implicitDefEqProofs := false) only [encLots, encLot, List.length_map, Int.natCast_nonneg, Int.toNat_natCast, hi', g1, h1, h2, h3, h4, k1, q5, List.map_nil, List.length_nil, Int.natCast_zero, beq_self_eq_true, true_or, if_true, Try.ntmps20, Try.results20, efc20, ss, sd, zH, qG, zF, zG, St.get, qE, qF, qB, zC, norm, look, zE, qA, qI, St.alloc, St.drop, zA, part, zB, depth, qD, ↓reduceIte, Nat.reduceBEq, Nat.reduceAdd, Nat.reduceSub, Nat.reduceMul, Nat.reduceEqDiff, Nat.reduceLeDiff, Nat.reduceLT, qJ, qK, qL, qM, qN, qO, qP, qQ, qR, zI, qS, qC, qT, evSlice0, qV, qW, qX, qY, qZ, zJ, zK, zL, wit, Option.isSome_some, qH, xK, evPre, St.with, zD, Array.size, toldV, isIntV, orArr, offB, effFr, effFr2, effFr3, mapIn, restSame, sameO, eqW, eqWL, pickR, te, einl, inls, efr]
    by_cases h7 : k = 6
    · subst h7
      have r6 := neI h6
      simp (maxSteps := 1000000) (implicitDefEqProofs := false) only [encLots, encLot, List.length_map, Int.natCast_nonneg, Int.toNat_natCast, hi', g1, h1, h2, h3, h4, k1, q5, r6, List.map_nil, List.length_nil, Int.natCast_zero, beq_self_eq_true, true_or, or_true, if_true, Try.ntmps20, Try.results20, efc20, ss, sd, zH, qG, zF, zG, St.get, qE, qF, qB, zC, norm, look, zE, qA, qI, St.alloc, St.drop, zA, part, zB, depth, qD, ↓reduceIte, Nat.reduceBEq, Nat.reduceAdd, Nat.reduceSub, Nat.reduceMul, Nat.reduceEqDiff, Nat.reduceLeDiff, Nat.reduceLT, qJ, qK, qL, qM, qN, qO, qP, qQ, qR, zI, qS, qC, qT, evSlice0, qV, qW, qX, qY, qZ, zJ, zK, zL, wit, Option.isSome_some, qH, xK, evPre, St.with, zD, Array.size, toldV, isIntV, orArr, offB, effFr, effFr2, effFr3, mapIn, restSame, sameO, eqW, eqWL, pickR, te, einl, inls, efr]
    by_cases h8 : k = 7
    · subst h8
      have r6 := neI h6
      have r7 := neI h7
      simp (maxSteps := 1000000) (implicitDefEqProofs := false) only [encLots, encLot, List.length_map, Int.natCast_nonneg, Int.toNat_natCast, hi', g1, h1, h2, h3, h4, k1, q5, r6, r7, List.map_nil, List.length_nil, Int.natCast_zero, beq_self_eq_true, or_true, if_true, Try.ntmps20, Try.results20, efc20, ss, sd, zH, qG, zF, zG, St.get, qE, qF, qB, zC, norm, look, zE, qA, qI, St.alloc, St.drop, zA, part, zB, depth, qD, ↓reduceIte, Nat.reduceBEq, Nat.reduceAdd, Nat.reduceSub, Nat.reduceMul, Nat.reduceEqDiff, Nat.reduceLeDiff, Nat.reduceLT, qJ, qK, qL, qM, qN, qO, qP, qQ, qR, zI, qS, qC, qT, evSlice0, qV, qW, qX, qY, qZ, zJ, zK, zL, wit, Option.isSome_some, qH, xK, evPre, St.with, zD, Array.size, toldV, isIntV, orArr, offB, effFr, effFr2, effFr3, mapIn, restSame, sameO, eqW, eqWL, pickR, te, einl, inls, efr]
    have r6 := neI h6
    have r7 := neI h7
    have r8 := neI h8
    rw [if_neg (by omega)]
    simp (maxSteps := 1000000) (implicitDefEqProofs := false) only [encLots, encLot, List.length_map, Int.natCast_nonneg, Int.toNat_natCast, hi', g1, h1, h2, h3, h4, k1, q5, r6, r7, r8, List.map_nil, List.length_nil, Int.natCast_zero, beq_self_eq_true, Try.ntmps20, Try.results20, efc20, ss, sd, zH, qG, zF, zG, St.get, qE, qF, qB, zC, norm, look, zE, qA, qI, St.alloc, St.drop, zA, part, zB, depth, qD, ↓reduceIte, Nat.reduceBEq, Nat.reduceAdd, Nat.reduceSub, Nat.reduceMul, Nat.reduceEqDiff, Nat.reduceLeDiff, Nat.reduceLT, qJ, qK, qL, qM, qN, qO, qP, qQ, qR, zI, qS, qC, qT, evSlice0, qV, qW, qX, qY, qZ, zJ, zK, zL, wit, Option.isSome_some, qH, xK, evPre, St.with, zD, Array.size, toldV, isIntV, orArr, offB, effFr, effFr2, effFr3, mapIn, restSame, sameO, eqW, eqWL, pickR, te, einl, inls, efr]
  · rw [if_neg hps]
    have hne : ¬ (ps.length : Int) = 0 := by have := List.length_pos_iff.2 hps; omega
    have rl := neI hne
    have k3 := k2 hpo
    have k4 := c37 (fw := 38) (cap := [.fp false [encLots l] 0]) (q := fun p => (lotAt l p.lot).kind == 0) (by decide) ps (by omega) rfl (fun _ => rfl) (fun _ => rfl) (fun q hq => c38 l q (by have := hea q hq; omega))
    rw [show (ps.any fun p => (lotAt l p.lot).kind == 0) = oilIn l ps from rfl] at k4
    simp only [encLots] at k4
    simp only [encLot] at k3
    by_cases h6 : sumP ps < m
    · by_cases h7 : k = 5
      · have r7 := beqI h7
        cases h8 : oilIn l ps with
        | true =>
          rw [h8] at k4
          rw [if_neg (by rintro ⟨_, h | h⟩; exact h h7; cases h)]
          simp (maxSteps := 1000000) (implicitDefEqProofs := false) only [encLots, encLot, List.length_map, Int.natCast_nonneg, Int.toNat_natCast, hi', g1, h1, h2, h3, h4, k1, q5, rl, k3, k4, h6, r7, evRegion_st hok, Try.ntmps20, Try.results20, efc20, ss, sd, zH, qG, zF, zG, St.get, qE, qF, qB, zC, norm, look, zE, qA, qI, St.alloc, St.drop, zA, part, zB, depth, qD, ↓reduceIte, Nat.reduceBEq, Nat.reduceAdd, Nat.reduceSub, Nat.reduceMul, Nat.reduceEqDiff, Nat.reduceLeDiff, Nat.reduceLT, qJ, qK, qL, qM, qN, qO, qP, qQ, qR, zI, qS, qC, qT, evSlice0, qV, qW, qX, qY, qZ, zJ, zK, zL, wit, Option.isSome_some, qH, xK, evPre, St.with, zD, Array.size, toldV, isIntV, orArr, offB, effFr, effFr2, effFr3, mapIn, restSame, sameO, eqW, eqWL, pickR, te, einl, inls, efr]
        | false =>
          rw [h8] at k4
          rw [if_pos ⟨h6, .inr rfl⟩]
          simp (maxSteps := 1000000) (implicitDefEqProofs := false) only [encLots, encLot, List.length_map, Int.natCast_nonneg, Int.toNat_natCast, hi', g1, h1, h2, h3, h4, k1, q5, rl, k3, k4, h6, r7, evRegion_st hok, Try.ntmps20, Try.results20, efc20, ss, sd, zH, qG, zF, zG, St.get, qE, qF, qB, zC, norm, look, zE, qA, qI, St.alloc, St.drop, zA, part, zB, depth, qD, ↓reduceIte, Nat.reduceBEq, Nat.reduceAdd, Nat.reduceSub, Nat.reduceMul, Nat.reduceEqDiff, Nat.reduceLeDiff, Nat.reduceLT, qJ, qK, qL, qM, qN, qO, qP, qQ, qR, zI, qS, qC, qT, evSlice0, qV, qW, qX, qY, qZ, zJ, zK, zL, wit, Option.isSome_some, qH, xK, evPre, St.with, zD, Array.size, toldV, isIntV, orArr, offB, effFr, effFr2, effFr3, mapIn, restSame, sameO, eqW, eqWL, pickR, te, einl, inls, efr]
      · have r7 := bneI h7
        rw [if_pos ⟨h6, .inl h7⟩]
        simp (maxSteps := 1000000) (implicitDefEqProofs := false) only [encLots, encLot, List.length_map, Int.natCast_nonneg, Int.toNat_natCast, hi', g1, h1, h2, h3, h4, k1, q5, rl, k3, k4, h6, r7, evRegion_st hok, Try.ntmps20, Try.results20, efc20, ss, sd, zH, qG, zF, zG, St.get, qE, qF, qB, zC, norm, look, zE, qA, qI, St.alloc, St.drop, zA, part, zB, depth, qD, ↓reduceIte, Nat.reduceBEq, Nat.reduceAdd, Nat.reduceSub, Nat.reduceMul, Nat.reduceEqDiff, Nat.reduceLeDiff, Nat.reduceLT, qJ, qK, qL, qM, qN, qO, qP, qQ, qR, zI, qS, qC, qT, evSlice0, qV, qW, qX, qY, qZ, zJ, zK, zL, wit, Option.isSome_some, qH, xK, evPre, St.with, zD, Array.size, toldV, isIntV, orArr, offB, effFr, effFr2, effFr3, mapIn, restSame, sameO, eqW, eqWL, pickR, te, einl, inls, efr]
    · rw [if_neg (by rintro ⟨h, _⟩; exact h6 h)]
      simp (maxSteps := 1000000) (implicitDefEqProofs := false) only [encLots, encLot, List.length_map, Int.natCast_nonneg, Int.toNat_natCast, hi', g1, h1, h2, h3, h4, k1, q5, rl, k3, k4, h6, evRegion_st hok, Try.ntmps20, Try.results20, efc20, ss, sd, zH, qG, zF, zG, St.get, qE, qF, qB, zC, norm, look, zE, qA, qI, St.alloc, St.drop, zA, part, zB, depth, qD, ↓reduceIte, Nat.reduceBEq, Nat.reduceAdd, Nat.reduceSub, Nat.reduceMul, Nat.reduceEqDiff, Nat.reduceLeDiff, Nat.reduceLT, qJ, qK, qL, qM, qN, qO, qP, qQ, qR, zI, qS, qC, qT, evSlice0, qV, qW, qX, qY, qZ, zJ, zK, zL, wit, Option.isSome_some, qH, xK, evPre, St.with, zD, Array.size, toldV, isIntV, orArr, offB, effFr, effFr2, effFr3, mapIn, restSame, sameO, eqW, eqWL, pickR, te, einl, inls, efr]
end Go.AM.F

