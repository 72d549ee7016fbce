/-
The lower bound: the walk of the document's LowerBound.
-/
import Derived.Test.YtejjeckiplihbaaDRefL
set_option linter.unusedSimpArgs false
set_option maxRecDepth 20000

namespace Go.AM.D
open Go Go.AM Go.Proofs

set_option maxRecDepth 20000 in
set_option maxHeartbeats 16000000 in
theorem c47 (j : Job) : (orcω E X0).call 47 [encJob j] = some (refLV j) := by
  refine call_of rfl fn47 rfl ?_
  have k1 := c51 j
  unfold refLV
  by_cases a2 : jobE j = 0
  rotate_left
  · have q2 : (jobE j != 0) = true := by simpa using a2
    rw [if_pos a2]
    generalize jobE j = e at *
    unfold encJob at *
    simp (maxSteps := 1000000) (implicitDefEqProofs := false) only [Try.ntmps47, Try.results47, efc47, fc47, k1, q2, ss, sd, evOp, evPlain, evVal, evMem, St.get, sliceOf, arrayOf, fieldsOf, normOf, norm, look, evVar, evFieldAddr, nameOf, St.alloc, St.drop, killOb, part, splice, depth, resultsV, ↓reduceIte, Nat.reduceBEq, Nat.reduceAdd, Nat.reduceSub, Nat.reduceMul, Nat.reduceEqDiff, Nat.reduceLeDiff, Nat.reduceLT, effOf, effMem, effVar, effLit, effMake, effApp, lend, evLit, evNil, freeze, evField, evIndexT, orNil, evSlice, placeOf, evMap, mapOf, keyOk, evFrame, closed, fixed, sameEs, wit, Option.isSome_some, St.with, wantedD, Array.size, te, einl, inls, efr]
  rw [if_neg (fun h => h a2)]
  obtain ⟨hj, hjo⟩ := jobE_zero a2
  rw [a2] at k1
  have h5 := hj.nrs
  have hst : ∀ s ∈ j.ss, 0 ≤ s.a ∧ s.a ≤ s.b ∧ s.b ≤ 60 := fun s hs => by have := hj.ss s hs; omega
  have k2 := c81 j.ss hst (by have := hj.nss; omega)
  have shl := shl_in (n := j.rs.length) (by omega)
  have hR2 : 2 ^ j.rs.length ≤ 32 := Nat.pow_le_pow_right (n := 2) (by omega) h5
  have hrl : ∀ r ∈ j.rs, 1 ≤ r.l ∧ r.l ≤ 300 := fun r hr => (hj.rs r hr).1
  have hstep : ∀ s : Nat, rbM j (lenM j.ss) (s + 1) = if ((rsM j s j.rs.length).one = true ∧ lenM j.ss ≤ (rsM j s j.rs.length).sum) ∧ (rbM j (lenM j.ss) s < 0 ∨ (rsM j s j.rs.length).n < rbM j (lenM j.ss) s) then (rsM j s j.rs.length).n else rbM j (lenM j.ss) s := fun s => by
    by_cases h : ((rsM j s j.rs.length).one = true ∧ lenM j.ss ≤ (rsM j s j.rs.length).sum) ∧ (rbM j (lenM j.ss) s < 0 ∨ (rsM j s j.rs.length).n < rbM j (lenM j.ss) s)
    · rw [if_pos h]; exact if_pos h
    · rw [if_neg h]; exact if_neg h
  have hrb0 : rbM j (lenM j.ss) 0 = -1 := rfl
  have u0 : IntKind.u64.wrap (j.rs.length : Int) = j.rs.length := IntWalk.u64_in _ (by omega)
  generalize lenM j.ss = need at *
  generalize rbM j need = B at *
  generalize hN : 2 ^ j.rs.length = N at shl hR2 ⊢
  unfold encJob at *
  simp (maxSteps := 1000000) (implicitDefEqProofs := false) only [Try.ntmps47, Try.results47, efc47, fc47, k1, k2, bne_self_eq_false, List.length_map, ss, sd, evOp, evPlain, evVal, evMem, St.get, sliceOf, arrayOf, fieldsOf, normOf, norm, look, evVar, evFieldAddr, nameOf, St.alloc, St.drop, killOb, part, splice, depth, resultsV, ↓reduceIte, Nat.reduceBEq, Nat.reduceAdd, Nat.reduceSub, Nat.reduceMul, Nat.reduceEqDiff, Nat.reduceLeDiff, Nat.reduceLT, effOf, effMem, effVar, effLit, effMake, effApp, lend, evLit, evNil, freeze, evField, evIndexT, orNil, evSlice, placeOf, evMap, mapOf, keyOk, evFrame, closed, fixed, sameEs, wit, Option.isSome_some, St.with, wantedD, Array.size, te, einl, inls, efr]
  generalize hr : loopAt _ _ _ _ _ _ = r; revert r
  refine loop_nat N (fun s _ => [(7, .int .i64 (B s)), (8, .int .i64 (s : Nat))]) (fun _ _ => []) (fun _ (_ : Unit) => True) () (by omega) (by simp (maxSteps := 1000000) (implicitDefEqProofs := false) only [hrb0, Int.natCast_zero, ss, sd, evOp, evPlain, evVal, evMem, St.get, sliceOf, arrayOf, fieldsOf, normOf, norm, look, evVar, evFieldAddr, nameOf, St.alloc, St.drop, killOb, part, splice, depth, resultsV, ↓reduceIte, Nat.reduceBEq, Nat.reduceAdd, Nat.reduceSub, Nat.reduceMul, Nat.reduceEqDiff, Nat.reduceLeDiff, Nat.reduceLT, effOf, effMem, effVar, effLit, effMake, effApp, lend, evLit, evNil, freeze, evField, evIndexT, orNil, evSlice, placeOf, evMap, mapOf, keyOk, evFrame, closed, fixed, sameEs, wit, Option.isSome_some, St.with, wantedD, Array.size, te, einl, inls, efr]) trivial (fun _ _ => ?_) (fun s _ _ a1 a2 a3 => ?_)
  · simp (maxSteps := 1000000) (implicitDefEqProofs := false) only [u0, shl, Int.lt_irrefl, Int.natCast_nonneg, Int.toNat_natCast, List.length_map, Try.ntmps47, Try.results47, efc47, fc47, ss, sd, evOp, evPlain, evVal, evMem, St.get, sliceOf, arrayOf, fieldsOf, normOf, norm, look, evVar, evFieldAddr, nameOf, St.alloc, St.drop, killOb, part, splice, depth, resultsV, ↓reduceIte, Nat.reduceBEq, Nat.reduceAdd, Nat.reduceSub, Nat.reduceMul, Nat.reduceEqDiff, Nat.reduceLeDiff, Nat.reduceLT, effOf, effMem, effVar, effLit, effMake, effApp, lend, evLit, evNil, freeze, evField, evIndexT, orNil, evSlice, placeOf, evMap, mapOf, keyOk, evFrame, closed, fixed, sameEs, wit, Option.isSome_some, St.with, wantedD, Array.size, te, einl, inls, efr]
  · simp (maxSteps := 1000000) (implicitDefEqProofs := false) only [u0, shl, a2, Int.natCast_nonneg, Int.toNat_natCast, List.length_map, ss, sd, evOp, evPlain, evVal, evMem, St.get, sliceOf, arrayOf, fieldsOf, normOf, norm, look, evVar, evFieldAddr, nameOf, St.alloc, St.drop, killOb, part, splice, depth, resultsV, ↓reduceIte, Nat.reduceBEq, Nat.reduceAdd, Nat.reduceSub, Nat.reduceMul, Nat.reduceEqDiff, Nat.reduceLeDiff, Nat.reduceLT, effOf, effMem, effVar, effLit, effMake, effApp, lend, evLit, evNil, freeze, evField, evIndexT, orNil, evSlice, placeOf, evMap, mapOf, keyOk, evFrame, closed, fixed, sameEs, wit, Option.isSome_some, St.with, wantedD, Array.size, te, einl, inls, efr]
    generalize hr : loopAt _ _ _ _ _ _ = r; revert r
    refine loop_list j.rs (fun pre _ => [(9, .int .i64 (rsM j s pre.length).n), (10, .int .i64 (rsM j s pre.length).sum), (11, .int .i64 (rsM j s pre.length).tone), (12, .bool (rsM j s pre.length).one), (13, .int .i64 pre.length)]) (fun _ _ => []) (fun pre (_ : Unit) => (0 ≤ (rsM j s pre.length).n ∧ (rsM j s pre.length).n ≤ pre.length) ∧ 0 ≤ (rsM j s pre.length).sum ∧ (rsM j s pre.length).sum ≤ 300 * pre.length) () (by omega) (by simp (maxSteps := 1000000) (implicitDefEqProofs := false) only [rsM, ss, sd, evOp, evPlain, evVal, evMem, St.get, sliceOf, arrayOf, fieldsOf, normOf, norm, look, evVar, evFieldAddr, nameOf, St.alloc, St.drop, killOb, part, splice, depth, resultsV, ↓reduceIte, Nat.reduceBEq, Nat.reduceAdd, Nat.reduceSub, Nat.reduceMul, Nat.reduceEqDiff, Nat.reduceLeDiff, Nat.reduceLT, effOf, effMem, effVar, effLit, effMake, effApp, lend, evLit, evNil, freeze, evField, evIndexT, orNil, evSlice, placeOf, evMap, mapOf, keyOk, evFrame, closed, fixed, sameEs, wit, Option.isSome_some, St.with, wantedD, Array.size, te, einl, inls, efr]) (show ((0 : Int) ≤ 0 ∧ (0 : Int) ≤ 0) ∧ (0 : Int) ≤ 0 ∧ (0 : Int) ≤ 300 * 0 by decide) (fun _ hI => ?_) (fun pre r post _ hp hI g1 g2 g3 g4 => ?_)
    · have hs1 := hstep s
      generalize rsM j s j.rs.length = x at *
      obtain ⟨n, sm, tn, on⟩ := x
      dsimp only at hs1 ⊢
      generalize B (s + 1) = b' at *
      generalize B s = b at *
      cases on with
      | false =>
        rw [if_neg (fun h => by cases h.1.1)] at hs1
        subst hs1
        simp (maxSteps := 1000000) (implicitDefEqProofs := false) only [Int.lt_irrefl, a3, List.length_map, ss, sd, evOp, evPlain, evVal, evMem, St.get, sliceOf, arrayOf, fieldsOf, normOf, norm, look, evVar, evFieldAddr, nameOf, St.alloc, St.drop, killOb, part, splice, depth, resultsV, ↓reduceIte, Nat.reduceBEq, Nat.reduceAdd, Nat.reduceSub, Nat.reduceMul, Nat.reduceEqDiff, Nat.reduceLeDiff, Nat.reduceLT, effOf, effMem, effVar, effLit, effMake, effApp, lend, evLit, evNil, freeze, evField, evIndexT, orNil, evSlice, placeOf, evMap, mapOf, keyOk, evFrame, closed, fixed, sameEs, wit, Option.isSome_some, St.with, wantedD, Array.size, te, einl, inls, efr]
        (first | exact ⟨(), trivial⟩ | refine ⟨(), ?_, trivial⟩ | skip)
      | true =>
        by_cases c1 : need ≤ sm
        · by_cases c2 : b < 0
          · rw [if_pos ⟨⟨rfl, c1⟩, .inl c2⟩] at hs1
            subst hs1
            simp (maxSteps := 1000000) (implicitDefEqProofs := false) only [Int.lt_irrefl, a3, c1, c2, List.length_map, ss, sd, evOp, evPlain, evVal, evMem, St.get, sliceOf, arrayOf, fieldsOf, normOf, norm, look, evVar, evFieldAddr, nameOf, St.alloc, St.drop, killOb, part, splice, depth, resultsV, ↓reduceIte, Nat.reduceBEq, Nat.reduceAdd, Nat.reduceSub, Nat.reduceMul, Nat.reduceEqDiff, Nat.reduceLeDiff, Nat.reduceLT, effOf, effMem, effVar, effLit, effMake, effApp, lend, evLit, evNil, freeze, evField, evIndexT, orNil, evSlice, placeOf, evMap, mapOf, keyOk, evFrame, closed, fixed, sameEs, wit, Option.isSome_some, St.with, wantedD, Array.size, te, einl, inls, efr]
            (first | exact ⟨(), trivial⟩ | refine ⟨(), ?_, trivial⟩ | skip)
          · by_cases c3 : n < b
            · rw [if_pos ⟨⟨rfl, c1⟩, .inr c3⟩] at hs1
              subst hs1
              simp (maxSteps := 1000000) (implicitDefEqProofs := false) only [Int.lt_irrefl, a3, c1, c2, c3, List.length_map, ss, sd, evOp, evPlain, evVal, evMem, St.get, sliceOf, arrayOf, fieldsOf, normOf, norm, look, evVar, evFieldAddr, nameOf, St.alloc, St.drop, killOb, part, splice, depth, resultsV, ↓reduceIte, Nat.reduceBEq, Nat.reduceAdd, Nat.reduceSub, Nat.reduceMul, Nat.reduceEqDiff, Nat.reduceLeDiff, Nat.reduceLT, effOf, effMem, effVar, effLit, effMake, effApp, lend, evLit, evNil, freeze, evField, evIndexT, orNil, evSlice, placeOf, evMap, mapOf, keyOk, evFrame, closed, fixed, sameEs, wit, Option.isSome_some, St.with, wantedD, Array.size, te, einl, inls, efr]
              (first | exact ⟨(), trivial⟩ | refine ⟨(), ?_, trivial⟩ | skip)
            · rw [if_neg (fun h => h.2.elim c2 c3)] at hs1
              subst hs1
              simp (maxSteps := 1000000) (implicitDefEqProofs := false) only [Int.lt_irrefl, a3, c1, c2, c3, List.length_map, ss, sd, evOp, evPlain, evVal, evMem, St.get, sliceOf, arrayOf, fieldsOf, normOf, norm, look, evVar, evFieldAddr, nameOf, St.alloc, St.drop, killOb, part, splice, depth, resultsV, ↓reduceIte, Nat.reduceBEq, Nat.reduceAdd, Nat.reduceSub, Nat.reduceMul, Nat.reduceEqDiff, Nat.reduceLeDiff, Nat.reduceLT, effOf, effMem, effVar, effLit, effMake, effApp, lend, evLit, evNil, freeze, evField, evIndexT, orNil, evSlice, placeOf, evMap, mapOf, keyOk, evFrame, closed, fixed, sameEs, wit, Option.isSome_some, St.with, wantedD, Array.size, te, einl, inls, efr]
              (first | exact ⟨(), trivial⟩ | refine ⟨(), ?_, trivial⟩ | skip)
        · rw [if_neg (fun h => c1 h.1.2)] at hs1
          subst hs1
          simp (maxSteps := 1000000) (implicitDefEqProofs := false) only [Int.lt_irrefl, a3, c1, List.length_map, ss, sd, evOp, evPlain, evVal, evMem, St.get, sliceOf, arrayOf, fieldsOf, normOf, norm, look, evVar, evFieldAddr, nameOf, St.alloc, St.drop, killOb, part, splice, depth, resultsV, ↓reduceIte, Nat.reduceBEq, Nat.reduceAdd, Nat.reduceSub, Nat.reduceMul, Nat.reduceEqDiff, Nat.reduceLeDiff, Nat.reduceLT, effOf, effMem, effVar, effLit, effMake, effApp, lend, evLit, evNil, freeze, evField, evIndexT, orNil, evSlice, placeOf, evMap, mapOf, keyOk, evFrame, closed, fixed, sameEs, wit, Option.isSome_some, St.with, wantedD, Array.size, te, einl, inls, efr]
          (first | exact ⟨(), trivial⟩ | refine ⟨(), ?_, trivial⟩ | skip)
    · have hlt : pre.length < j.rs.length := g2
      have hx := hrl r (List.mem_of_getElem? g3)
      have hrr : rollAt j pre.length = r := by unfold rollAt; exact getD_of g3
      have hrs : rsM j s (pre ++ [r]).length = if bitP s pre.length = true then ⟨(rsM j s pre.length).n + 1, (rsM j s pre.length).sum + r.l, r.sh, if 0 ≤ (rsM j s pre.length).tone ∧ ¬ r.sh = (rsM j s pre.length).tone then false else (rsM j s pre.length).one⟩ else rsM j s pre.length := by
        rw [show (pre ++ [r]).length = pre.length + 1 by simp, ← hrr]
        rfl
      have ab := and_bit (k := s) (i := pre.length) (by omega) (by omega)
      have u1 : IntKind.u64.wrap (pre.length : Int) = pre.length := IntWalk.u64_in _ (by omega)
      have hbt : ((pre ++ [r]).length : Int) = pre.length + 1 := by simp
      have pl5 : (pre.length : Int) < 5 := by omega
      generalize rsM j s (pre ++ [r]).length = x' at *
      generalize rsM j s pre.length = x at *
      obtain ⟨n, sm, tn, on⟩ := x
      dsimp only at hI hrs ⊢
      have w1 : IntKind.i64.wrap (n + 1) = n + 1 := wrap_in (by omega)
      have w2 : IntKind.i64.wrap (sm + r.l) = sm + r.l := wrap_in (by omega)
      cases hb : bitP s pre.length with
      | false =>
        rw [hb] at ab hrs
        have ab : bitsI .and .i64 ((s : Int).fdiv (2 ^ (min pre.length (IntKind.bits .i64)))) 1 = 0 := ab
        rw [if_neg (by simp)] at hrs
        subst hrs
        have hI' : (0 ≤ n ∧ n ≤ ((pre ++ [r]).length : Int)) ∧ 0 ≤ sm ∧ sm ≤ 300 * ((pre ++ [r]).length : Int) := by omega
        simp (maxSteps := 1000000) (implicitDefEqProofs := false) only [g1, g2, g3, g4, u1, ab, beq_self_eq_true, Int.natCast_nonneg, Int.toNat_natCast, List.getElem?_map, List.length_map, ss, sd, evOp, evPlain, evVal, evMem, St.get, sliceOf, arrayOf, fieldsOf, normOf, norm, look, evVar, evFieldAddr, nameOf, St.alloc, St.drop, killOb, part, splice, depth, resultsV, ↓reduceIte, Nat.reduceBEq, Nat.reduceAdd, Nat.reduceSub, Nat.reduceMul, Nat.reduceEqDiff, Nat.reduceLeDiff, Nat.reduceLT, effOf, effMem, effVar, effLit, effMake, effApp, lend, evLit, evNil, freeze, evField, evIndexT, orNil, evSlice, placeOf, evMap, mapOf, keyOk, evFrame, closed, fixed, sameEs, wit, Option.isSome_some, St.with, wantedD, Array.size, te, einl, inls, efr]
        first | exact ⟨(), rfl, hI'⟩ | exact ⟨(), hI'⟩
      | true =>
        rw [hb] at ab hrs
        have ab : bitsI .and .i64 ((s : Int).fdiv (2 ^ (min pre.length (IntKind.bits .i64)))) 1 = 1 := ab
        have q10 : ((1 : Int) == 0) = false := rfl
        rw [if_pos rfl] at hrs
        have hI' : (0 ≤ n + 1 ∧ n + 1 ≤ ((pre ++ [r]).length : Int)) ∧ 0 ≤ sm + r.l ∧ sm + r.l ≤ 300 * ((pre ++ [r]).length : Int) := by omega
        obtain ⟨rl, rp, rs⟩ := r
        dsimp only at *
        by_cases c1 : 0 ≤ tn
        · by_cases c2 : rs = tn
          · rw [if_neg (fun h => h.2 c2)] at hrs
            subst hrs
            have q11 : (rs != tn) = false := by simpa using c2
            simp (maxSteps := 1000000) (implicitDefEqProofs := false) only [g1, g2, g3, g4, u1, ab, q10, w1, w2, c1, q11, encRoll, Int.natCast_nonneg, Int.toNat_natCast, List.getElem?_map, List.length_map, ss, sd, evOp, evPlain, evVal, evMem, St.get, sliceOf, arrayOf, fieldsOf, normOf, norm, look, evVar, evFieldAddr, nameOf, St.alloc, St.drop, killOb, part, splice, depth, resultsV, ↓reduceIte, Nat.reduceBEq, Nat.reduceAdd, Nat.reduceSub, Nat.reduceMul, Nat.reduceEqDiff, Nat.reduceLeDiff, Nat.reduceLT, effOf, effMem, effVar, effLit, effMake, effApp, lend, evLit, evNil, freeze, evField, evIndexT, orNil, evSlice, placeOf, evMap, mapOf, keyOk, evFrame, closed, fixed, sameEs, wit, Option.isSome_some, St.with, wantedD, Array.size, te, einl, inls, efr]
            first | exact ⟨(), rfl, hI'⟩ | exact ⟨(), hI'⟩
          · rw [if_pos ⟨c1, c2⟩] at hrs
            subst hrs
            have q11 : (rs != tn) = true := by simpa using c2
            simp (maxSteps := 1000000) (implicitDefEqProofs := false) only [g1, g2, g3, g4, u1, ab, q10, w1, w2, c1, q11, encRoll, Int.natCast_nonneg, Int.toNat_natCast, List.getElem?_map, List.length_map, ss, sd, evOp, evPlain, evVal, evMem, St.get, sliceOf, arrayOf, fieldsOf, normOf, norm, look, evVar, evFieldAddr, nameOf, St.alloc, St.drop, killOb, part, splice, depth, resultsV, ↓reduceIte, Nat.reduceBEq, Nat.reduceAdd, Nat.reduceSub, Nat.reduceMul, Nat.reduceEqDiff, Nat.reduceLeDiff, Nat.reduceLT, effOf, effMem, effVar, effLit, effMake, effApp, lend, evLit, evNil, freeze, evField, evIndexT, orNil, evSlice, placeOf, evMap, mapOf, keyOk, evFrame, closed, fixed, sameEs, wit, Option.isSome_some, St.with, wantedD, Array.size, te, einl, inls, efr]
            first | exact ⟨(), rfl, hI'⟩ | exact ⟨(), hI'⟩
        · rw [if_neg (fun h => c1 h.1)] at hrs
          subst hrs
          simp (maxSteps := 1000000) (implicitDefEqProofs := false) only [g1, g2, g3, g4, u1, ab, q10, w1, w2, c1, encRoll, Int.natCast_nonneg, Int.toNat_natCast, List.getElem?_map, List.length_map, ss, sd, evOp, evPlain, evVal, evMem, St.get, sliceOf, arrayOf, fieldsOf, normOf, norm, look, evVar, evFieldAddr, nameOf, St.alloc, St.drop, killOb, part, splice, depth, resultsV, ↓reduceIte, Nat.reduceBEq, Nat.reduceAdd, Nat.reduceSub, Nat.reduceMul, Nat.reduceEqDiff, Nat.reduceLeDiff, Nat.reduceLT, effOf, effMem, effVar, effLit, effMake, effApp, lend, evLit, evNil, freeze, evField, evIndexT, orNil, evSlice, placeOf, evMap, mapOf, keyOk, evFrame, closed, fixed, sameEs, wit, Option.isSome_some, St.with, wantedD, Array.size, te, einl, inls, efr]
          first | exact ⟨(), rfl, hI'⟩ | exact ⟨(), hI'⟩
end Go.AM.D
