/-
The bound of prices, and which prices are a proof: the document, and the law.
-/
import Derived.Test.YtkacpekakpbalaaEBound
set_option linter.unusedVariables false
set_option linter.unusedSimpArgs false
set_option maxRecDepth 20000

namespace Go.AM.E
open Go Go.AM Go.Proofs

theorem okT23 : okCode (Try.f23.body.getD .skip) = true := by decide +kernel
set_option maxRecDepth 20000 in
set_option maxHeartbeats 8000000 in
theorem c23 (b : Blend) (p : Pr) : (orcω E XS).call 23 [encBlend b, encPr p] = some (encR (boundR b p)) := by
  refine call_of rfl fn23 rfl ?_
  have hok := okT23
  simp only [Try.f23, Option.getD_some, okCode, Bool.and_eq_true, Bool.and_true, Bool.true_and] at hok
  obtain ⟨hk1, hk2⟩ := hok
  have k1 := c16 b
  unfold boundR
  rcases errV_cases b with he | he
  rotate_left
  · rw [he] at k1 ⊢
    rw [if_neg (by decide)]
    obtain ⟨tot, cs, lo, hi⟩ := b
    obtain ⟨den, y, u, v, w⟩ := p
    simp only [encBlend, encPr] at k1 ⊢
    simp (maxSteps := 1000000) (implicitDefEqProofs := false) only [Try.ntmps23, Try.results23, efc23, fc23, encR, k1, q_one, ss, sd, zI, qG, zG, zH, St.get, qE, qF, qB, zD, norm, look, zF, qA, qI, St.alloc, St.drop, zA, part, zC, depth, qD, ↓reduceIte, Nat.reduceBEq, Nat.reduceAdd, Nat.reduceSub, Nat.reduceMul, Nat.reduceEqDiff, Nat.reduceLeDiff, Nat.reduceLT, qJ, qK, qL, qM, qN, qO, qP, qQ, qR, zJ, qS, qC, qT, qU, qV, qW, qX, qY, qZ, zK, fixed, zL, wit, Option.isSome_some, qH, St.with, zE, Array.size, te, einl, inls, efr]
  rw [he] at k1 ⊢
  rw [if_pos rfl]
  have hv := errV_zero he
  have hl := hv.2.1
  have h3 := hv.2.2.1
  have k2 := c59 b p (by omega) (by omega)
  cases hr : rightP b p with
  | false =>
    rw [hr] at k2
    rw [if_neg (by decide)]
    obtain ⟨tot, cs, lo, hi⟩ := b
    obtain ⟨den, y, u, v, w⟩ := p
    simp only [encBlend, encPr] at k1 k2 ⊢
    simp (maxSteps := 1000000) (implicitDefEqProofs := false) only [Try.ntmps23, Try.results23, efc23, fc23, encR, k1, k2, bne_self_eq_false, ss, sd, zI, qG, zG, zH, St.get, qE, qF, qB, zD, norm, look, zF, qA, qI, St.alloc, St.drop, zA, part, zC, depth, qD, ↓reduceIte, Nat.reduceBEq, Nat.reduceAdd, Nat.reduceSub, Nat.reduceMul, Nat.reduceEqDiff, Nat.reduceLeDiff, Nat.reduceLT, qJ, qK, qL, qM, qN, qO, qP, qQ, qR, zJ, qS, qC, qT, qU, qV, qW, qX, qY, qZ, zK, fixed, zL, wit, Option.isSome_some, qH, St.with, zE, Array.size, te, einl, inls, efr]
  | true =>
  rw [hr] at k2
  rw [if_pos rfl]
  have hp := rightP_iff.1 hr
  have hf := hp.fine
  have k3 := c60 b p hv hf
  have k4 := c61 b p hv hf
  have hV := value_in hv hf
  have k5 := c54 (valueM b p) p.den (by omega) (by have := hp.1; omega)
  have dy := fun i => dear_yes (b := b) (p := p) (i := i)
  have dn := dear_iff (b := b) (p := p)
  have hco := fun c hc => (cemOk_iff.1 (hv.2.2.2.2.2.2.2 c hc)).2.1
  have ca := fun i c => coAt_some (b := b) (i := i) (c := c)
  have hden := hp.1
  clear hf hp hr hv he
  generalize gainAt b p = gA at *
  generalize dearB b p = dB at *
  generalize valueM b p = va at *
  generalize coAt b = cA at *
  generalize makeR va p.den = mm at *
  obtain ⟨tot, cs, lo, hi⟩ := b
  obtain ⟨den, y, u, v, w⟩ := p
  unfold encR at k5
  simp only [encBlend, encPr] at k1 k2 k3 k4 ⊢
  dsimp only at *
  simp (maxSteps := 1000000) (implicitDefEqProofs := false) only [Try.ntmps23, Try.results23, efc23, fc23, k1, k2, bne_self_eq_false, List.length_map, ss, sd, zI, qG, zG, zH, St.get, qE, qF, qB, zD, norm, look, zF, qA, qI, St.alloc, St.drop, zA, part, zC, depth, qD, ↓reduceIte, Nat.reduceBEq, Nat.reduceAdd, Nat.reduceSub, Nat.reduceMul, Nat.reduceEqDiff, Nat.reduceLeDiff, Nat.reduceLT, qJ, qK, qL, qM, qN, qO, qP, qQ, qR, zJ, qS, qC, qT, qU, qV, qW, qX, qY, qZ, zK, fixed, zL, wit, Option.isSome_some, qH, St.with, zE, Array.size, te, einl, inls, efr]
  generalize hr : loopAt _ _ _ _ _ _ = r; revert r
  refine loop_nat cs.length (fun i _ => [(7, .int .i64 (i : Nat))]) (fun _ _ => []) (fun i (_ : Unit) => ∀ j, j < i → ¬ den * cA j < gA j) () (by omega) (by simp (maxSteps := 1000000) (implicitDefEqProofs := false) only [Int.natCast_zero, ss, sd, zI, qG, zG, zH, St.get, qE, qF, qB, zD, norm, look, zF, qA, qI, St.alloc, St.drop, zA, part, zC, depth, qD, ↓reduceIte, Nat.reduceBEq, Nat.reduceAdd, Nat.reduceSub, Nat.reduceMul, Nat.reduceEqDiff, Nat.reduceLeDiff, Nat.reduceLT, qJ, qK, qL, qM, qN, qO, qP, qQ, qR, zJ, qS, qC, qT, qU, qV, qW, qX, qY, qZ, zK, fixed, zL, wit, Option.isSome_some, qH, St.with, zE, Array.size, te, einl, inls, efr]) (fun _ h => by omega) (fun _ hS => ?_) (fun i _ hS a1 a2 a3 => ?_)
  · have e1 := dn.2 hS
    simp (maxSteps := 1000000) (implicitDefEqProofs := false) only [Int.lt_irrefl, e1, k4, k5, encR, evRegion_st hk2, Bool.false_eq_true, if_false, List.length_map, Try.ntmps23, Try.results23, efc23, fc23, ss, sd, zI, qG, zG, zH, St.get, qE, qF, qB, zD, norm, look, zF, qA, qI, St.alloc, St.drop, zA, part, zC, depth, qD, ↓reduceIte, Nat.reduceBEq, Nat.reduceAdd, Nat.reduceSub, Nat.reduceMul, Nat.reduceEqDiff, Nat.reduceLeDiff, Nat.reduceLT, qJ, qK, qL, qM, qN, qO, qP, qQ, qR, zJ, qS, qC, qT, qU, qV, qW, qX, qY, qZ, zK, fixed, zL, wit, Option.isSome_some, qH, St.with, zE, Array.size, te, einl, inls, efr]
  · have g1 : cs[i]? = some cs[i] := List.getElem?_eq_getElem a1
    have e2 := ca i _ g1
    have k6 := k3 i a1
    have b2 := mul_in (show 0 ≤ den ∧ den ≤ 1048576 by omega) (hco cs[i] (List.getElem_mem _))
    have w2 : IntKind.i64.wrap (den * cs[i].co) = den * cA i := by rw [e2, wrap_in (by omega)]
    have dyi := dy i a1
    by_cases hlt : den * cA i < gA i
    · have e5 := dyi hlt
      clear b2 e2 dyi hS
      generalize cs[i] = c at *
      simp (maxSteps := 1000000) (implicitDefEqProofs := false) only [a1, a2, a3, g1, k6, w2, hlt, e5, encR, encCem, vI, evRegion_st hk1, if_true, Int.natCast_nonneg, Int.toNat_natCast, List.getElem?_map, List.length_map, Try.ntmps23, Try.results23, efc23, fc23, ss, sd, zI, qG, zG, zH, St.get, qE, qF, qB, zD, norm, look, zF, qA, qI, St.alloc, St.drop, zA, part, zC, depth, qD, ↓reduceIte, Nat.reduceBEq, Nat.reduceAdd, Nat.reduceSub, Nat.reduceMul, Nat.reduceEqDiff, Nat.reduceLeDiff, Nat.reduceLT, qJ, qK, qL, qM, qN, qO, qP, qQ, qR, zJ, qS, qC, qT, qU, qV, qW, qX, qY, qZ, zK, fixed, zL, wit, Option.isSome_some, qH, St.with, zE, Array.size, te, einl, inls, efr]
    · have hS' : ∀ j, j < i + 1 → ¬ den * cA j < gA j := by
        intro j hj
        by_cases hji : j = i
        · subst hji; exact hlt
        · exact hS j (by omega)
      clear b2 e2 dyi hS
      generalize cs[i] = c at *
      simp (maxSteps := 1000000) (implicitDefEqProofs := false) only [a1, a2, a3, g1, k6, w2, hlt, encCem, vI, evRegion_st hk1, Int.natCast_nonneg, Int.toNat_natCast, List.getElem?_map, List.length_map, ss, sd, zI, qG, zG, zH, St.get, qE, qF, qB, zD, norm, look, zF, qA, qI, St.alloc, St.drop, zA, part, zC, depth, qD, ↓reduceIte, Nat.reduceBEq, Nat.reduceAdd, Nat.reduceSub, Nat.reduceMul, Nat.reduceEqDiff, Nat.reduceLeDiff, Nat.reduceLT, qJ, qK, qL, qM, qN, qO, qP, qQ, qR, zJ, qS, qC, qT, qU, qV, qW, qX, qY, qZ, zK, fixed, zL, wit, Option.isSome_some, qH, St.with, zE, Array.size, te, einl, inls, efr]
      exact ⟨(), hS'⟩

set_option maxRecDepth 20000 in
set_option maxHeartbeats 8000000 in
theorem c21 (b : Blend) (p : Pr) : (orcω E XS).call 21 [encBlend b, encPr p] = some (.bool (proofB b p)) := by
  refine call_of rfl fn21 rfl ?_
  have k1 := c16 b
  unfold proofB
  rcases errV_cases b with he | he
  rotate_left
  · rw [he] at k1 ⊢
    have q2 : decide ((1 : Int) = 0) = false := by decide
    obtain ⟨tot, cs, lo, hi⟩ := b
    obtain ⟨den, y, u, v, w⟩ := p
    simp only [encBlend, encPr] at k1 ⊢
    simp (maxSteps := 1000000) (implicitDefEqProofs := false) only [Try.ntmps21, Try.results21, efc21, fc21, k1, q_one, q2, Bool.false_and, ss, sd, zI, qG, zG, zH, St.get, qE, qF, qB, zD, norm, look, zF, qA, qI, St.alloc, St.drop, zA, part, zC, depth, qD, ↓reduceIte, Nat.reduceBEq, Nat.reduceAdd, Nat.reduceSub, Nat.reduceMul, Nat.reduceEqDiff, Nat.reduceLeDiff, Nat.reduceLT, qJ, qK, qL, qM, qN, qO, qP, qQ, qR, zJ, qS, qC, qT, qU, qV, qW, qX, qY, qZ, zK, fixed, zL, wit, Option.isSome_some, qH, St.with, zE, Array.size, te, einl, inls, efr]
  rw [he] at k1 ⊢
  have q2 : decide ((0 : Int) = 0) = true := by decide
  have hv := errV_zero he
  have hl := hv.2.1
  have h3 := hv.2.2.1
  have k2 := c59 b p (by omega) (by omega)
  cases hr : rightP b p with
  | false =>
    rw [hr] at k2
    obtain ⟨tot, cs, lo, hi⟩ := b
    obtain ⟨den, y, u, v, w⟩ := p
    simp only [encBlend, encPr] at k1 k2 ⊢
    simp (maxSteps := 1000000) (implicitDefEqProofs := false) only [Try.ntmps21, Try.results21, efc21, fc21, k1, k2, q2, bne_self_eq_false, Bool.true_and, Bool.false_and, Bool.not_false, ss, sd, zI, qG, zG, zH, St.get, qE, qF, qB, zD, norm, look, zF, qA, qI, St.alloc, St.drop, zA, part, zC, depth, qD, ↓reduceIte, Nat.reduceBEq, Nat.reduceAdd, Nat.reduceSub, Nat.reduceMul, Nat.reduceEqDiff, Nat.reduceLeDiff, Nat.reduceLT, qJ, qK, qL, qM, qN, qO, qP, qQ, qR, zJ, qS, qC, qT, qU, qV, qW, qX, qY, qZ, zK, fixed, zL, wit, Option.isSome_some, qH, St.with, zE, Array.size, te, einl, inls, efr]
  | true =>
  rw [hr] at k2
  have hp := rightP_iff.1 hr
  have hf := hp.fine
  have k3 := c60 b p hv hf
  have k4 := c61 b p hv hf
  have dy := fun i => gain_yes (b := b) (p := p) (i := i)
  have dn := gainB_iff (b := b) (p := p)
  clear hf hp hr hv he
  generalize gainAt b p = gA at *
  generalize gainB b p = dB at *
  generalize valueM b p = va at *
  obtain ⟨tot, cs, lo, hi⟩ := b
  obtain ⟨den, y, u, v, w⟩ := p
  simp only [encBlend, encPr] at k1 k2 k3 k4 ⊢
  dsimp only at *
  simp (maxSteps := 1000000) (implicitDefEqProofs := false) only [Try.ntmps21, Try.results21, efc21, fc21, k1, k2, bne_self_eq_false, Bool.not_true, List.length_map, ss, sd, zI, qG, zG, zH, St.get, qE, qF, qB, zD, norm, look, zF, qA, qI, St.alloc, St.drop, zA, part, zC, depth, qD, ↓reduceIte, Nat.reduceBEq, Nat.reduceAdd, Nat.reduceSub, Nat.reduceMul, Nat.reduceEqDiff, Nat.reduceLeDiff, Nat.reduceLT, qJ, qK, qL, qM, qN, qO, qP, qQ, qR, zJ, qS, qC, qT, qU, qV, qW, qX, qY, qZ, zK, fixed, zL, wit, Option.isSome_some, qH, St.with, zE, Array.size, te, einl, inls, efr]
  generalize hr : loopAt _ _ _ _ _ _ = r; revert r
  refine loop_nat cs.length (fun i _ => [(5, .int .i64 (i : Nat))]) (fun _ _ => []) (fun i (_ : Unit) => ∀ j, j < i → ¬ 0 < gA j) () (by omega) (by simp (maxSteps := 1000000) (implicitDefEqProofs := false) only [Int.natCast_zero, ss, sd, zI, qG, zG, zH, St.get, qE, qF, qB, zD, norm, look, zF, qA, qI, St.alloc, St.drop, zA, part, zC, depth, qD, ↓reduceIte, Nat.reduceBEq, Nat.reduceAdd, Nat.reduceSub, Nat.reduceMul, Nat.reduceEqDiff, Nat.reduceLeDiff, Nat.reduceLT, qJ, qK, qL, qM, qN, qO, qP, qQ, qR, zJ, qS, qC, qT, qU, qV, qW, qX, qY, qZ, zK, fixed, zL, wit, Option.isSome_some, qH, St.with, zE, Array.size, te, einl, inls, efr]) (fun _ h => by omega) (fun _ hS => ?_) (fun i _ hS a1 a2 a3 => ?_)
  · have e1 := dn.2 hS
    by_cases hva : 0 < va
    · simp (maxSteps := 1000000) (implicitDefEqProofs := false) only [Int.lt_irrefl, e1, k4, hva, q2, decide_true, Bool.not_false, Bool.and_true, List.length_map, Try.ntmps21, Try.results21, efc21, fc21, ss, sd, zI, qG, zG, zH, St.get, qE, qF, qB, zD, norm, look, zF, qA, qI, St.alloc, St.drop, zA, part, zC, depth, qD, ↓reduceIte, Nat.reduceBEq, Nat.reduceAdd, Nat.reduceSub, Nat.reduceMul, Nat.reduceEqDiff, Nat.reduceLeDiff, Nat.reduceLT, qJ, qK, qL, qM, qN, qO, qP, qQ, qR, zJ, qS, qC, qT, qU, qV, qW, qX, qY, qZ, zK, fixed, zL, wit, Option.isSome_some, qH, St.with, zE, Array.size, te, einl, inls, efr]
    · simp (maxSteps := 1000000) (implicitDefEqProofs := false) only [Int.lt_irrefl, e1, k4, hva, q2, decide_false, Bool.not_false, Bool.and_true, Bool.and_false, List.length_map, Try.ntmps21, Try.results21, efc21, fc21, ss, sd, zI, qG, zG, zH, St.get, qE, qF, qB, zD, norm, look, zF, qA, qI, St.alloc, St.drop, zA, part, zC, depth, qD, ↓reduceIte, Nat.reduceBEq, Nat.reduceAdd, Nat.reduceSub, Nat.reduceMul, Nat.reduceEqDiff, Nat.reduceLeDiff, Nat.reduceLT, qJ, qK, qL, qM, qN, qO, qP, qQ, qR, zJ, qS, qC, qT, qU, qV, qW, qX, qY, qZ, zK, fixed, zL, wit, Option.isSome_some, qH, St.with, zE, Array.size, te, einl, inls, efr]
  · have k6 := k3 i a1
    have dyi := dy i a1
    by_cases hlt : 0 < gA i
    · have e5 := dyi hlt
      simp (maxSteps := 1000000) (implicitDefEqProofs := false) only [a1, a2, a3, k6, hlt, e5, q2, Bool.not_true, Bool.and_false, Bool.false_and, List.length_map, Try.ntmps21, Try.results21, efc21, fc21, ss, sd, zI, qG, zG, zH, St.get, qE, qF, qB, zD, norm, look, zF, qA, qI, St.alloc, St.drop, zA, part, zC, depth, qD, ↓reduceIte, Nat.reduceBEq, Nat.reduceAdd, Nat.reduceSub, Nat.reduceMul, Nat.reduceEqDiff, Nat.reduceLeDiff, Nat.reduceLT, qJ, qK, qL, qM, qN, qO, qP, qQ, qR, zJ, qS, qC, qT, qU, qV, qW, qX, qY, qZ, zK, fixed, zL, wit, Option.isSome_some, qH, St.with, zE, Array.size, te, einl, inls, efr]
    · have hS' : ∀ j, j < i + 1 → ¬ 0 < gA j := by
        intro j hj
        by_cases hji : j = i
        · subst hji; exact hlt
        · exact hS j (by omega)
      simp (maxSteps := 1000000) (implicitDefEqProofs := false) only [a1, a2, a3, k6, hlt, List.length_map, ss, sd, zI, qG, zG, zH, St.get, qE, qF, qB, zD, norm, look, zF, qA, qI, St.alloc, St.drop, zA, part, zC, depth, qD, ↓reduceIte, Nat.reduceBEq, Nat.reduceAdd, Nat.reduceSub, Nat.reduceMul, Nat.reduceEqDiff, Nat.reduceLeDiff, Nat.reduceLT, qJ, qK, qL, qM, qN, qO, qP, qQ, qR, zJ, qS, qC, qT, qU, qV, qW, qX, qY, qZ, zK, fixed, zL, wit, Option.isSome_some, qH, St.with, zE, Array.size, te, einl, inls, efr]
      exact ⟨(), hS'⟩

end Go.AM.E

