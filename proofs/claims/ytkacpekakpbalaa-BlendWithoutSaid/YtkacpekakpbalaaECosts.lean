/-
The cost and the properties of amounts.
-/
import Derived.Test.YtkacpekakpbalaaEAmts
set_option linter.unusedVariables false
set_option linter.unusedSimpArgs false
set_option maxRecDepth 20000

namespace Go.AM.E
open Go Go.AM Go.Proofs

def costR (b : Blend) (a : Amts) : Int × Int × Int :=
  if errV b = 0 then (if rightM b a = true then makeR (costM b a.x) a.den else (0, 0, 1)) else (0, 0, 1)
theorem costM_in {b : Blend} {a : Amts} (hb : Valid b) (ha : RightA b a) : 0 ≤ costM b a.x ∧ costM b a.x ≤ 5 * 1073741824000 := by
  have := dot_in (f := (·.co)) (cost_f hb) ha.2.2 ha.2.1 _ (Nat.le_refl _)
  have h2 := hb.2.1
  unfold costM
  omega
theorem propM_in {b : Blend} {a : Amts} (hb : Valid b) (ha : RightA b a) (k : Nat) : 0 ≤ propM b a.x k ∧ propM b a.x k ≤ 5 * 1073741824000 := by
  have := dot_in (prop_f' hb k) ha.2.2 ha.2.1 _ (Nat.le_refl _)
  have h2 := hb.2.1
  unfold propM
  omega

theorem okT28 : okCode (Try.f28.body.getD .skip) = true := by decide +kernel
set_option maxRecDepth 20000 in
set_option maxHeartbeats 4000000 in
theorem c28 (b : Blend) (a : Amts) : (orcω E XS).call 28 [encBlend b, encAmts a] = some (encR (costR b a)) := by
  refine call_of rfl fn28 rfl ?_
  have hok := okT28
  simp only [Try.f28, Option.getD_some, okCode, Bool.and_eq_true, Bool.and_true, Bool.true_and] at hok
  have k1 := c15 b
  unfold costR
  rcases errV_cases b with he | he
  · rw [he] at k1 ⊢
    rw [if_pos rfl]
    have hv := errV_zero he
    have hl := hv.2.1
    have k2 := c63 b a (by omega)
    cases hr : rightM b a with
    | false =>
      rw [hr] at k2
      rw [if_neg (by decide)]
      obtain ⟨tot, cs, lo, hi⟩ := b
      obtain ⟨den, x⟩ := a
      simp only [encBlend, encAmts] at k1 k2 ⊢
      simp (maxSteps := 1000000) (implicitDefEqProofs := false) only [Try.ntmps28, Try.results28, efc28, encR, k1, k2, bne_self_eq_false, ss, sd, zI, qG, zG, zH, St.get, qE, qF, qB, zD, norm, look, zF, qA, qI, St.alloc, St.drop, zA, part, zC, depth, qD, ↓reduceIte, Nat.reduceBEq, Nat.reduceAdd, Nat.reduceSub, Nat.reduceMul, Nat.reduceEqDiff, Nat.reduceLeDiff, Nat.reduceLT, qJ, qK, qL, qM, qN, qO, qP, qQ, qR, zJ, qS, qC, qT, evSlice0, qV, qW, qX, qY, qZ, zK, fixed, zL, wit, Option.isSome_some, qH, evSliceP, evPre, St.with, zE, Array.size, te, einl, inls, efr]
    | true =>
      rw [hr] at k2
      rw [if_pos rfl]
      have ha := rightM_iff.1 hr
      have b1 := costM_in hv ha
      have b2 := ha.1
      have k3 := c66 b a hv ha
      have k4 := c65 (costM b a.x) a.den (by omega) (by omega)
      generalize costM b a.x = c at *
      obtain ⟨tot, cs, lo, hi⟩ := b
      obtain ⟨den, x⟩ := a
      dsimp only at *
      generalize makeR c den = m at *
      unfold encR at k4 ⊢
      simp only [encBlend, encAmts] at k1 k2 k3 ⊢
      simp (maxSteps := 1000000) (implicitDefEqProofs := false) only [Try.ntmps28, Try.results28, efc28, evRegion_st hok, k1, k2, k3, k4, bne_self_eq_false, ss, sd, zI, qG, zG, zH, St.get, qE, qF, qB, zD, norm, look, zF, qA, qI, St.alloc, St.drop, zA, part, zC, depth, qD, ↓reduceIte, Nat.reduceBEq, Nat.reduceAdd, Nat.reduceSub, Nat.reduceMul, Nat.reduceEqDiff, Nat.reduceLeDiff, Nat.reduceLT, qJ, qK, qL, qM, qN, qO, qP, qQ, qR, zJ, qS, qC, qT, evSlice0, qV, qW, qX, qY, qZ, zK, fixed, zL, wit, Option.isSome_some, qH, evSliceP, evPre, St.with, zE, Array.size, te, einl, inls, efr]
  · rw [he] at k1 ⊢
    rw [if_neg (by decide)]
    have q1 : ((1 : Int) != 0) = true := by decide
    obtain ⟨tot, cs, lo, hi⟩ := b
    obtain ⟨den, x⟩ := a
    unfold encBlend at k1 ⊢
    unfold encAmts
    dsimp only at k1 ⊢
    simp (maxSteps := 1000000) (implicitDefEqProofs := false) only [Try.ntmps28, Try.results28, efc28, encR, k1, q1, ss, sd, zI, qG, zG, zH, St.get, qE, qF, qB, zD, norm, look, zF, qA, qI, St.alloc, St.drop, zA, part, zC, depth, qD, ↓reduceIte, Nat.reduceBEq, Nat.reduceAdd, Nat.reduceSub, Nat.reduceMul, Nat.reduceEqDiff, Nat.reduceLeDiff, Nat.reduceLT, qJ, qK, qL, qM, qN, qO, qP, qQ, qR, zJ, qS, qC, qT, evSlice0, qV, qW, qX, qY, qZ, zK, fixed, zL, wit, Option.isSome_some, qH, evSliceP, evPre, St.with, zE, Array.size, te, einl, inls, efr]
end Go.AM.E

