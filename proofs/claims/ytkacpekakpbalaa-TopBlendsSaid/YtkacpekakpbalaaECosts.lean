/-
The cost and the properties of amounts.
-/
import Derived.Test.YtkacpekakpbalaaEAmts
set_option linter.unusedSimpArgs false
set_option maxRecDepth 20000

namespace Go.AM.E
open Go Go.AM Go.Proofs

def costR (b : Blend) (a : Amts) : Int × Int × Int :=
  if errV b = 0 then (if rightM b a = true then makeR (costM b a.x) a.den else (0, 0, 1)) else (0, 0, 1)
def propR (b : Blend) (a : Amts) (k : Int) : Int × Int × Int :=
  if errV b = 0 then (if rightM b a = true then (if 0 ≤ k ∧ k < b.lo.length then makeR (propM b a.x k.toNat) (a.den * b.tot) else (0, 0, 5)) else (0, 0, 1)) else (0, 0, 1)
theorem costM_in {b : Blend} {a : Amts} (hb : Valid b) (ha : RightA b a) : 0 ≤ costM b a.x ∧ costM b a.x ≤ 5 * 1073741824000 := by
  have := dot_in (f := (·.co)) (cost_f hb) ha.2.2 ha.2.1 _ (Nat.le_refl _)
  have h2 := hb.2.1
  unfold costM
  omega
theorem propM_in {b : Blend} {a : Amts} (hb : Valid b) (ha : RightA b a) (k : Nat) : 0 ≤ propM b a.x k ∧ propM b a.x k ≤ 5 * 1073741824000 := by
  have := dot_in (prop_f' hb k) ha.2.2 ha.2.1 _ (Nat.le_refl _)
  have h2 := hb.2.1
  unfold propM
  omega

theorem okT28 : okCode (Try.f28.body.getD .skip) = true := by decide +kernel
set_option maxRecDepth 20000 in
set_option maxHeartbeats 4000000 in
theorem c28 (b : Blend) (a : Amts) : (orcω E XS).call 28 [encBlend b, encAmts a] = some (encR (costR b a)) := by
  refine call_of rfl fn28 rfl ?_
  have hok := okT28
  simp only [Try.f28, Option.getD_some, okCode, Bool.and_eq_true, Bool.and_true, Bool.true_and] at hok
  have k1 := c15 b
  unfold costR
  rcases errV_cases b with he | he
  · rw [he] at k1 ⊢
    rw [if_pos rfl]
    have hv := errV_zero he
    have hl := hv.2.1
    have k2 := c63 b a (by omega)
    cases hr : rightM b a with
    | false =>
      rw [hr] at k2
      rw [if_neg (by decide)]
      obtain ⟨tot, cs, lo, hi⟩ := b
      obtain ⟨den, x⟩ := a
      simp only [encBlend, encAmts] at k1 k2 ⊢
      simp (maxSteps := 1000000) (implicitDefEqProofs := false) only [Try.ntmps28, Try.results28, efc28, encR, k1, k2, bne_self_eq_false, ss, sd, evOp, evPlain, evVal, evMem, St.get, sliceOf, arrayOf, fieldsOf, normOf, norm, look, evVar, evFieldAddr, nameOf, St.alloc, St.drop, killOb, part, splice, depth, resultsV, ↓reduceIte, Nat.reduceBEq, Nat.reduceAdd, Nat.reduceSub, Nat.reduceMul, Nat.reduceEqDiff, Nat.reduceLeDiff, Nat.reduceLT, effOf, effMem, effVar, effLit, effMake, effApp, lend, evLit, evNil, freeze, evField, evIndexT, orNil, evSlice, placeOf, evMap, mapOf, keyOk, evFrame, closed, fixed, sameEs, wit, Option.isSome_some, St.with, wantedD, Array.size, te, einl, inls, efr]
    | true =>
      rw [hr] at k2
      rw [if_pos rfl]
      have ha := rightM_iff.1 hr
      have b1 := costM_in hv ha
      have b2 := ha.1
      have k3 := c66 b a hv ha
      have k4 := c65 (costM b a.x) a.den (by omega) (by omega)
      generalize costM b a.x = c at *
      obtain ⟨tot, cs, lo, hi⟩ := b
      obtain ⟨den, x⟩ := a
      dsimp only at *
      generalize makeR c den = m at *
      unfold encR at k4 ⊢
      simp only [encBlend, encAmts] at k1 k2 k3 ⊢
      simp (maxSteps := 1000000) (implicitDefEqProofs := false) only [Try.ntmps28, Try.results28, efc28, evRegion_st hok, k1, k2, k3, k4, bne_self_eq_false, ss, sd, evOp, evPlain, evVal, evMem, St.get, sliceOf, arrayOf, fieldsOf, normOf, norm, look, evVar, evFieldAddr, nameOf, St.alloc, St.drop, killOb, part, splice, depth, resultsV, ↓reduceIte, Nat.reduceBEq, Nat.reduceAdd, Nat.reduceSub, Nat.reduceMul, Nat.reduceEqDiff, Nat.reduceLeDiff, Nat.reduceLT, effOf, effMem, effVar, effLit, effMake, effApp, lend, evLit, evNil, freeze, evField, evIndexT, orNil, evSlice, placeOf, evMap, mapOf, keyOk, evFrame, closed, fixed, sameEs, wit, Option.isSome_some, St.with, wantedD, Array.size, te, einl, inls, efr]
  · rw [he] at k1 ⊢
    rw [if_neg (by decide)]
    have q1 : ((1 : Int) != 0) = true := by decide
    obtain ⟨tot, cs, lo, hi⟩ := b
    obtain ⟨den, x⟩ := a
    unfold encBlend at k1 ⊢
    unfold encAmts
    dsimp only at k1 ⊢
    simp (maxSteps := 1000000) (implicitDefEqProofs := false) only [Try.ntmps28, Try.results28, efc28, encR, k1, q1, ss, sd, evOp, evPlain, evVal, evMem, St.get, sliceOf, arrayOf, fieldsOf, normOf, norm, look, evVar, evFieldAddr, nameOf, St.alloc, St.drop, killOb, part, splice, depth, resultsV, ↓reduceIte, Nat.reduceBEq, Nat.reduceAdd, Nat.reduceSub, Nat.reduceMul, Nat.reduceEqDiff, Nat.reduceLeDiff, Nat.reduceLT, effOf, effMem, effVar, effLit, effMake, effApp, lend, evLit, evNil, freeze, evField, evIndexT, orNil, evSlice, placeOf, evMap, mapOf, keyOk, evFrame, closed, fixed, sameEs, wit, Option.isSome_some, St.with, wantedD, Array.size, te, einl, inls, efr]
theorem okT22 : okCode (Try.f22.body.getD .skip) = true := by decide +kernel
set_option maxRecDepth 20000 in
set_option maxHeartbeats 4000000 in
theorem c22 (b : Blend) (a : Amts) : (orcω E XS).call 22 [encBlend b, encAmts a] = some (encR (costR b a)) := by
  refine call_of rfl fn22 rfl ?_
  have hok := okT22
  simp only [Try.f22, Option.getD_some, okCode, Bool.and_eq_true, Bool.and_true, Bool.true_and] at hok
  have k1 := c16 b
  unfold costR
  rcases errV_cases b with he | he
  · rw [he] at k1 ⊢
    rw [if_pos rfl]
    have hv := errV_zero he
    have hl := hv.2.1
    have k2 := c27 b a (by omega)
    cases hr : rightM b a with
    | false =>
      rw [hr] at k2
      rw [if_neg (by decide)]
      obtain ⟨tot, cs, lo, hi⟩ := b
      obtain ⟨den, x⟩ := a
      simp only [encBlend, encAmts] at k1 k2 ⊢
      simp (maxSteps := 1000000) (implicitDefEqProofs := false) only [Try.ntmps22, Try.results22, efc22, encR, k1, k2, bne_self_eq_false, ss, sd, evOp, evPlain, evVal, evMem, St.get, sliceOf, arrayOf, fieldsOf, normOf, norm, look, evVar, evFieldAddr, nameOf, St.alloc, St.drop, killOb, part, splice, depth, resultsV, ↓reduceIte, Nat.reduceBEq, Nat.reduceAdd, Nat.reduceSub, Nat.reduceMul, Nat.reduceEqDiff, Nat.reduceLeDiff, Nat.reduceLT, effOf, effMem, effVar, effLit, effMake, effApp, lend, evLit, evNil, freeze, evField, evIndexT, orNil, evSlice, placeOf, evMap, mapOf, keyOk, evFrame, closed, fixed, sameEs, wit, Option.isSome_some, St.with, wantedD, Array.size, te, einl, inls, efr]
    | true =>
      rw [hr] at k2
      rw [if_pos rfl]
      have ha := rightM_iff.1 hr
      have b1 := costM_in hv ha
      have b2 := ha.1
      have k3 := c53 b a.x hv ha.2.1 ha.2.2
      have k4 := c54 (costM b a.x) a.den (by omega) (by omega)
      generalize costM b a.x = c at *
      obtain ⟨tot, cs, lo, hi⟩ := b
      obtain ⟨den, x⟩ := a
      dsimp only at *
      generalize makeR c den = m at *
      unfold encR at k4 ⊢
      simp only [encBlend, encAmts] at k1 k2 k3 ⊢
      simp (maxSteps := 1000000) (implicitDefEqProofs := false) only [Try.ntmps22, Try.results22, efc22, evRegion_st hok, k1, k2, k3, k4, bne_self_eq_false, ss, sd, evOp, evPlain, evVal, evMem, St.get, sliceOf, arrayOf, fieldsOf, normOf, norm, look, evVar, evFieldAddr, nameOf, St.alloc, St.drop, killOb, part, splice, depth, resultsV, ↓reduceIte, Nat.reduceBEq, Nat.reduceAdd, Nat.reduceSub, Nat.reduceMul, Nat.reduceEqDiff, Nat.reduceLeDiff, Nat.reduceLT, effOf, effMem, effVar, effLit, effMake, effApp, lend, evLit, evNil, freeze, evField, evIndexT, orNil, evSlice, placeOf, evMap, mapOf, keyOk, evFrame, closed, fixed, sameEs, wit, Option.isSome_some, St.with, wantedD, Array.size, te, einl, inls, efr]
  · rw [he] at k1 ⊢
    rw [if_neg (by decide)]
    have q1 : ((1 : Int) != 0) = true := by decide
    obtain ⟨tot, cs, lo, hi⟩ := b
    obtain ⟨den, x⟩ := a
    unfold encBlend at k1 ⊢
    unfold encAmts
    dsimp only at k1 ⊢
    simp (maxSteps := 1000000) (implicitDefEqProofs := false) only [Try.ntmps22, Try.results22, efc22, encR, k1, q1, ss, sd, evOp, evPlain, evVal, evMem, St.get, sliceOf, arrayOf, fieldsOf, normOf, norm, look, evVar, evFieldAddr, nameOf, St.alloc, St.drop, killOb, part, splice, depth, resultsV, ↓reduceIte, Nat.reduceBEq, Nat.reduceAdd, Nat.reduceSub, Nat.reduceMul, Nat.reduceEqDiff, Nat.reduceLeDiff, Nat.reduceLT, effOf, effMem, effVar, effLit, effMake, effApp, lend, evLit, evNil, freeze, evField, evIndexT, orNil, evSlice, placeOf, evMap, mapOf, keyOk, evFrame, closed, fixed, sameEs, wit, Option.isSome_some, St.with, wantedD, Array.size, te, einl, inls, efr]

theorem den_in {t d : Int} (h1 : 1 ≤ d ∧ d ≤ 1048576) (h2 : 1 ≤ t ∧ t ≤ 1000) : 1 ≤ d * t ∧ d * t ≤ 1048576000 := by
  have h3 := Int.mul_le_mul h1.2 h2.2 (by omega) (by omega)
  have h4 := Int.mul_le_mul h1.1 h2.1 (by omega) (by omega)
  omega
theorem okT31 : okCode (Try.f31.body.getD .skip) = true := by decide +kernel
set_option maxRecDepth 20000 in
set_option maxHeartbeats 8000000 in
theorem c31 (b : Blend) (a : Amts) (k : Int) : (orcω E XS).call 31 [encBlend b, encAmts a, .int .i64 k] = some (encR (propR b a k)) := by
  refine call_of rfl fn31 rfl ?_
  have hok := okT31
  simp only [Try.f31, Option.getD_some, okCode, Bool.and_eq_true, Bool.and_true, Bool.true_and] at hok
  have k1 := c15 b
  unfold propR
  rcases errV_cases b with he | he
  · rw [he] at k1 ⊢
    rw [if_pos rfl]
    have hv := errV_zero he
    have hl := hv.2.1
    have hlo := hv.2.2.1
    have k2 := c63 b a (by omega)
    cases hr : rightM b a with
    | false =>
      rw [hr] at k2
      rw [if_neg (by decide)]
      obtain ⟨tot, cs, lo, hi⟩ := b
      obtain ⟨den, x⟩ := a
      simp only [encBlend, encAmts] at k1 k2 ⊢
      simp (maxSteps := 1000000) (implicitDefEqProofs := false) only [Try.ntmps31, Try.results31, efc31, encR, k1, k2, bne_self_eq_false, ss, sd, evOp, evPlain, evVal, evMem, St.get, sliceOf, arrayOf, fieldsOf, normOf, norm, look, evVar, evFieldAddr, nameOf, St.alloc, St.drop, killOb, part, splice, depth, resultsV, ↓reduceIte, Nat.reduceBEq, Nat.reduceAdd, Nat.reduceSub, Nat.reduceMul, Nat.reduceEqDiff, Nat.reduceLeDiff, Nat.reduceLT, effOf, effMem, effVar, effLit, effMake, effApp, lend, evLit, evNil, freeze, evField, evIndexT, orNil, evSlice, placeOf, evMap, mapOf, keyOk, evFrame, closed, fixed, sameEs, wit, Option.isSome_some, St.with, wantedD, Array.size, te, einl, inls, efr]
    | true =>
      rw [hr] at k2
      rw [if_pos rfl]
      have ha := rightM_iff.1 hr
      have k5 := c47 k 0 ((b.lo.length : Int) - 1)
      have w1 : IntKind.i64.wrap ((b.lo.length : Int) - 1) = (b.lo.length : Int) - 1 := wrap_in (by omega)
      by_cases hk : 0 ≤ k ∧ k < b.lo.length
      · rw [if_pos hk]
        rw [inB_iff.2 (by omega)] at k5
        obtain ⟨j, rfl⟩ : ∃ j : Nat, k = j := ⟨k.toNat, by omega⟩
        rw [Int.toNat_natCast]
        have b1 := propM_in hv ha j
        have b2 := den_in ha.1 hv.1
        have w2 : IntKind.i64.wrap (a.den * b.tot) = a.den * b.tot := wrap_in (by omega)
        have k3 := c70 b a hv ha j (by omega)
        have k4 := c65 (propM b a.x j) (a.den * b.tot) (by omega) (by omega)
        generalize propM b a.x j = c at *
        obtain ⟨tot, cs, lo, hi⟩ := b
        obtain ⟨den, x⟩ := a
        dsimp only at *
        generalize makeR c (den * tot) = m at *
        unfold encR at k4 ⊢
        simp only [encBlend, encAmts] at k1 k2 k3 ⊢
        simp (maxSteps := 1000000) (implicitDefEqProofs := false) only [Try.ntmps31, Try.results31, efc31, evRegion_st hok, k1, k2, k3, k4, k5, w1, w2, bne_self_eq_false, List.length_map, ss, sd, evOp, evPlain, evVal, evMem, St.get, sliceOf, arrayOf, fieldsOf, normOf, norm, look, evVar, evFieldAddr, nameOf, St.alloc, St.drop, killOb, part, splice, depth, resultsV, ↓reduceIte, Nat.reduceBEq, Nat.reduceAdd, Nat.reduceSub, Nat.reduceMul, Nat.reduceEqDiff, Nat.reduceLeDiff, Nat.reduceLT, effOf, effMem, effVar, effLit, effMake, effApp, lend, evLit, evNil, freeze, evField, evIndexT, orNil, evSlice, placeOf, evMap, mapOf, keyOk, evFrame, closed, fixed, sameEs, wit, Option.isSome_some, St.with, wantedD, Array.size, te, einl, inls, efr]
      · rw [if_neg hk]
        have h5 : inB k 0 ((b.lo.length : Int) - 1) = false := by
          rw [Bool.eq_false_iff]; intro hh; have := inB_iff.1 hh; exact hk (by omega)
        rw [h5] at k5
        obtain ⟨tot, cs, lo, hi⟩ := b
        obtain ⟨den, x⟩ := a
        simp only [encBlend, encAmts] at k1 k2 ⊢
        simp (maxSteps := 1000000) (implicitDefEqProofs := false) only [Try.ntmps31, Try.results31, efc31, encR, k1, k2, k5, w1, bne_self_eq_false, List.length_map, ss, sd, evOp, evPlain, evVal, evMem, St.get, sliceOf, arrayOf, fieldsOf, normOf, norm, look, evVar, evFieldAddr, nameOf, St.alloc, St.drop, killOb, part, splice, depth, resultsV, ↓reduceIte, Nat.reduceBEq, Nat.reduceAdd, Nat.reduceSub, Nat.reduceMul, Nat.reduceEqDiff, Nat.reduceLeDiff, Nat.reduceLT, effOf, effMem, effVar, effLit, effMake, effApp, lend, evLit, evNil, freeze, evField, evIndexT, orNil, evSlice, placeOf, evMap, mapOf, keyOk, evFrame, closed, fixed, sameEs, wit, Option.isSome_some, St.with, wantedD, Array.size, te, einl, inls, efr]
  · rw [he] at k1 ⊢
    rw [if_neg (by decide)]
    have q1 : ((1 : Int) != 0) = true := by decide
    obtain ⟨tot, cs, lo, hi⟩ := b
    obtain ⟨den, x⟩ := a
    unfold encBlend at k1 ⊢
    unfold encAmts
    dsimp only at k1 ⊢
    simp (maxSteps := 1000000) (implicitDefEqProofs := false) only [Try.ntmps31, Try.results31, efc31, encR, k1, q1, ss, sd, evOp, evPlain, evVal, evMem, St.get, sliceOf, arrayOf, fieldsOf, normOf, norm, look, evVar, evFieldAddr, nameOf, St.alloc, St.drop, killOb, part, splice, depth, resultsV, ↓reduceIte, Nat.reduceBEq, Nat.reduceAdd, Nat.reduceSub, Nat.reduceMul, Nat.reduceEqDiff, Nat.reduceLeDiff, Nat.reduceLT, effOf, effMem, effVar, effLit, effMake, effApp, lend, evLit, evNil, freeze, evField, evIndexT, orNil, evSlice, placeOf, evMap, mapOf, keyOk, evFrame, closed, fixed, sameEs, wit, Option.isSome_some, St.with, wantedD, Array.size, te, einl, inls, efr]
theorem okT32 : okCode (Try.f32.body.getD .skip) = true := by decide +kernel
set_option maxRecDepth 20000 in
set_option maxHeartbeats 8000000 in
theorem c32 (b : Blend) (a : Amts) (k : Int) : (orcω E XS).call 32 [encBlend b, encAmts a, .int .i64 k] = some (encR (propR b a k)) := by
  refine call_of rfl fn32 rfl ?_
  have hok := okT32
  simp only [Try.f32, Option.getD_some, okCode, Bool.and_eq_true, Bool.and_true, Bool.true_and] at hok
  have k1 := c16 b
  unfold propR
  rcases errV_cases b with he | he
  · rw [he] at k1 ⊢
    rw [if_pos rfl]
    have hv := errV_zero he
    have hl := hv.2.1
    have hlo := hv.2.2.1
    have k2 := c27 b a (by omega)
    cases hr : rightM b a with
    | false =>
      rw [hr] at k2
      rw [if_neg (by decide)]
      obtain ⟨tot, cs, lo, hi⟩ := b
      obtain ⟨den, x⟩ := a
      simp only [encBlend, encAmts] at k1 k2 ⊢
      simp (maxSteps := 1000000) (implicitDefEqProofs := false) only [Try.ntmps32, Try.results32, efc32, encR, k1, k2, bne_self_eq_false, ss, sd, evOp, evPlain, evVal, evMem, St.get, sliceOf, arrayOf, fieldsOf, normOf, norm, look, evVar, evFieldAddr, nameOf, St.alloc, St.drop, killOb, part, splice, depth, resultsV, ↓reduceIte, Nat.reduceBEq, Nat.reduceAdd, Nat.reduceSub, Nat.reduceMul, Nat.reduceEqDiff, Nat.reduceLeDiff, Nat.reduceLT, effOf, effMem, effVar, effLit, effMake, effApp, lend, evLit, evNil, freeze, evField, evIndexT, orNil, evSlice, placeOf, evMap, mapOf, keyOk, evFrame, closed, fixed, sameEs, wit, Option.isSome_some, St.with, wantedD, Array.size, te, einl, inls, efr]
    | true =>
      rw [hr] at k2
      rw [if_pos rfl]
      have ha := rightM_iff.1 hr
      by_cases hk : 0 ≤ k ∧ k < b.lo.length
      · rw [if_pos hk]
        obtain ⟨j, rfl⟩ : ∃ j : Nat, k = j := ⟨k.toNat, by omega⟩
        rw [Int.toNat_natCast]
        have b1 := propM_in hv ha j
        have b2 := den_in ha.1 hv.1
        have w2 : IntKind.i64.wrap (a.den * b.tot) = a.den * b.tot := wrap_in (by omega)
        have k3 := c71 b a.x hv ha.2.1 ha.2.2 j (by omega)
        have k4 := c54 (propM b a.x j) (a.den * b.tot) (by omega) (by omega)
        have q1 : ¬ (j : Int) < 0 := by omega
        have q2 : ¬ (b.lo.length : Int) ≤ j := by omega
        generalize propM b a.x j = c at *
        obtain ⟨tot, cs, lo, hi⟩ := b
        obtain ⟨den, x⟩ := a
        dsimp only at *
        generalize makeR c (den * tot) = m at *
        unfold encR at k4 ⊢
        simp only [encBlend, encAmts] at k1 k2 k3 ⊢
        simp (maxSteps := 1000000) (implicitDefEqProofs := false) only [Try.ntmps32, Try.results32, efc32, evRegion_st hok, k1, k2, k3, k4, q1, q2, w2, bne_self_eq_false, List.length_map, ss, sd, evOp, evPlain, evVal, evMem, St.get, sliceOf, arrayOf, fieldsOf, normOf, norm, look, evVar, evFieldAddr, nameOf, St.alloc, St.drop, killOb, part, splice, depth, resultsV, ↓reduceIte, Nat.reduceBEq, Nat.reduceAdd, Nat.reduceSub, Nat.reduceMul, Nat.reduceEqDiff, Nat.reduceLeDiff, Nat.reduceLT, effOf, effMem, effVar, effLit, effMake, effApp, lend, evLit, evNil, freeze, evField, evIndexT, orNil, evSlice, placeOf, evMap, mapOf, keyOk, evFrame, closed, fixed, sameEs, wit, Option.isSome_some, St.with, wantedD, Array.size, te, einl, inls, efr]
      · rw [if_neg hk]
        by_cases q1 : k < 0
        · obtain ⟨tot, cs, lo, hi⟩ := b
          obtain ⟨den, x⟩ := a
          simp only [encBlend, encAmts] at k1 k2 ⊢
          simp (maxSteps := 1000000) (implicitDefEqProofs := false) only [Try.ntmps32, Try.results32, efc32, encR, k1, k2, q1, bne_self_eq_false, List.length_map, ss, sd, evOp, evPlain, evVal, evMem, St.get, sliceOf, arrayOf, fieldsOf, normOf, norm, look, evVar, evFieldAddr, nameOf, St.alloc, St.drop, killOb, part, splice, depth, resultsV, ↓reduceIte, Nat.reduceBEq, Nat.reduceAdd, Nat.reduceSub, Nat.reduceMul, Nat.reduceEqDiff, Nat.reduceLeDiff, Nat.reduceLT, effOf, effMem, effVar, effLit, effMake, effApp, lend, evLit, evNil, freeze, evField, evIndexT, orNil, evSlice, placeOf, evMap, mapOf, keyOk, evFrame, closed, fixed, sameEs, wit, Option.isSome_some, St.with, wantedD, Array.size, te, einl, inls, efr]
        · have q2 : (b.lo.length : Int) ≤ k := by omega
          obtain ⟨tot, cs, lo, hi⟩ := b
          obtain ⟨den, x⟩ := a
          dsimp only at q2
          simp only [encBlend, encAmts] at k1 k2 ⊢
          simp (maxSteps := 1000000) (implicitDefEqProofs := false) only [Try.ntmps32, Try.results32, efc32, encR, k1, k2, q1, q2, bne_self_eq_false, List.length_map, ss, sd, evOp, evPlain, evVal, evMem, St.get, sliceOf, arrayOf, fieldsOf, normOf, norm, look, evVar, evFieldAddr, nameOf, St.alloc, St.drop, killOb, part, splice, depth, resultsV, ↓reduceIte, Nat.reduceBEq, Nat.reduceAdd, Nat.reduceSub, Nat.reduceMul, Nat.reduceEqDiff, Nat.reduceLeDiff, Nat.reduceLT, effOf, effMem, effVar, effLit, effMake, effApp, lend, evLit, evNil, freeze, evField, evIndexT, orNil, evSlice, placeOf, evMap, mapOf, keyOk, evFrame, closed, fixed, sameEs, wit, Option.isSome_some, St.with, wantedD, Array.size, te, einl, inls, efr]
  · rw [he] at k1 ⊢
    rw [if_neg (by decide)]
    have q1 : ((1 : Int) != 0) = true := by decide
    obtain ⟨tot, cs, lo, hi⟩ := b
    obtain ⟨den, x⟩ := a
    unfold encBlend at k1 ⊢
    unfold encAmts
    dsimp only at k1 ⊢
    simp (maxSteps := 1000000) (implicitDefEqProofs := false) only [Try.ntmps32, Try.results32, efc32, encR, k1, q1, ss, sd, evOp, evPlain, evVal, evMem, St.get, sliceOf, arrayOf, fieldsOf, normOf, norm, look, evVar, evFieldAddr, nameOf, St.alloc, St.drop, killOb, part, splice, depth, resultsV, ↓reduceIte, Nat.reduceBEq, Nat.reduceAdd, Nat.reduceSub, Nat.reduceMul, Nat.reduceEqDiff, Nat.reduceLeDiff, Nat.reduceLT, effOf, effMem, effVar, effLit, effMake, effApp, lend, evLit, evNil, freeze, evField, evIndexT, orNil, evSlice, placeOf, evMap, mapOf, keyOk, evFrame, closed, fixed, sameEs, wit, Option.isSome_some, St.with, wantedD, Array.size, te, einl, inls, efr]

set_option maxRecDepth 20000 in
set_option maxHeartbeats 4000000 in
theorem c9 (b : Blend) (a : Amts) (k : Int) : (orcω E XS).call 9 [encBlend b, encAmts a, .int .i64 k] = some (.bool true) := by
  refine call_of rfl fn9 rfl ?_
  have k0 := c17
  have k1 := c28 b a
  have k2 := c22 b a
  have k3 := c31 b a k
  have k4 := c32 b a k
  generalize costR b a = m at *
  generalize propR b a k = n at *
  unfold encR at k1 k2 k3 k4
  obtain ⟨tot, cs, lo, hi⟩ := b
  obtain ⟨den, x⟩ := a
  simp only [encBlend, encAmts] at k1 k2 k3 k4 ⊢
  simp (maxSteps := 1000000) (implicitDefEqProofs := false) only [Try.ntmps9, Try.results9, efc9, k0, k1, k2, k3, k4, beq_self_eq_true, Bool.and_self, ss, sd, evOp, evPlain, evVal, evMem, St.get, sliceOf, arrayOf, fieldsOf, normOf, norm, look, evVar, evFieldAddr, nameOf, St.alloc, St.drop, killOb, part, splice, depth, resultsV, ↓reduceIte, Nat.reduceBEq, Nat.reduceAdd, Nat.reduceSub, Nat.reduceMul, Nat.reduceEqDiff, Nat.reduceLeDiff, Nat.reduceLT, effOf, effMem, effVar, effLit, effMake, effApp, lend, evLit, evNil, freeze, evField, evIndexT, orNil, evSlice, placeOf, evMap, mapOf, keyOk, evFrame, closed, fixed, sameEs, wit, Option.isSome_some, St.with, wantedD, Array.size, te, einl, inls, efr]
end Go.AM.E
