/-
Which amounts keep the conditions: the document, and the checks of all of it.
-/
import Derived.Test.YtkacpekakpbalaaECheck
set_option linter.unusedVariables false
set_option linter.unusedSimpArgs false
set_option maxRecDepth 20000

namespace Go.AM.E
open Go Go.AM Go.Proofs

theorem okT62 : okCode (Try.f62.body.getD .skip) = true := by decide +kernel
set_option maxRecDepth 20000 in
set_option maxHeartbeats 8000000 in
theorem c62 (b : Blend) (a : Amts) (hb : Valid b) (ha : RightA b a) : (orcω E XS).call 62 [encBlend b, .sl false (a.x.map vI), .int .i64 a.den] = some (.bool (keptB b a.x a.den)) := by
  refine call_of rfl fn62 rfl ?_
  have hok := okT62
  simp only [Try.f62, Option.getD_some, okCode, Bool.and_eq_true, Bool.and_true, Bool.true_and] at hok
  obtain ⟨d1, d2, d3⟩ := ha
  have k2 := fun k hk => c71 b a.x hb d2 d3 k hk
  have k3 := fun x lo hi => c49 x lo hi
  have ht := hb.1
  have hlo := hb.2.2.2.2.1
  have hhi := hb.2.2.2.2.2.1
  have hln := hb.2.2.1
  have hlh := hb.2.2.2.1
  have hbk : ∀ k, inBounds b a.x a.den k = inB (propM b a.x k) (b.lo.getD k 0 * (b.tot * a.den)) (b.hi.getD k 0 * (b.tot * a.den)) := fun _ => rfl
  have whole := mul_in (a := b.tot) (b := a.den) (A := 1000) (B := 1048576) (by omega) (by omega)
  have kiff := kept_iff (b := b) (xs := a.x) (den := a.den)
  generalize keptB b a.x a.den = kp at *
  generalize inBounds b a.x a.den = ib at *
  generalize propM b a.x = pm at *
  obtain ⟨tot, cs, lo, hi⟩ := b
  obtain ⟨den, x⟩ := a
  clear hb
  simp only [encBlend] at k2 ⊢
  dsimp only at *
  simp (maxSteps := 1000000) (implicitDefEqProofs := false) only [Try.ntmps62, Try.results62, efc62, fc62, List.length_map, ss, sd, zI, qG, zG, zH, St.get, qE, qF, qB, zD, norm, look, zF, qA, qI, St.alloc, St.drop, zA, part, zC, depth, qD, ↓reduceIte, Nat.reduceBEq, Nat.reduceAdd, Nat.reduceSub, Nat.reduceMul, Nat.reduceEqDiff, Nat.reduceLeDiff, Nat.reduceLT, qJ, qK, qL, qM, qN, qO, qP, qQ, qR, zJ, qS, qC, qT, qU, qV, qW, qX, qY, qZ, zK, fixed, zL, wit, Option.isSome_some, qH, St.with, zE, Array.size, te, einl, inls, efr]
  generalize hr : loopAt _ _ _ _ _ _ = r; revert r
  refine loop_nat lo.length (fun i _ => [(7, .int .i64 (i : Nat))]) (fun _ _ => []) (fun i (_ : Unit) => ∀ j, j < i → ib j = true) () (by omega) (by simp (maxSteps := 1000000) (implicitDefEqProofs := false) only [Int.natCast_zero, ss, sd, zI, qG, zG, zH, St.get, qE, qF, qB, zD, norm, look, zF, qA, qI, St.alloc, St.drop, zA, part, zC, depth, qD, ↓reduceIte, Nat.reduceBEq, Nat.reduceAdd, Nat.reduceSub, Nat.reduceMul, Nat.reduceEqDiff, Nat.reduceLeDiff, Nat.reduceLT, qJ, qK, qL, qM, qN, qO, qP, qQ, qR, zJ, qS, qC, qT, qU, qV, qW, qX, qY, qZ, zK, fixed, zL, wit, Option.isSome_some, qH, St.with, zE, Array.size, te, einl, inls, efr]) (fun _ h => by omega) (fun _ hK => ?_) (fun i _ hK a1 a2 a3 => ?_)
  · have e1 := kiff.2 hK
    simp (maxSteps := 1000000) (implicitDefEqProofs := false) only [Int.lt_irrefl, e1, List.length_map, Try.ntmps62, Try.results62, efc62, fc62, ss, sd, zI, qG, zG, zH, St.get, qE, qF, qB, zD, norm, look, zF, qA, qI, St.alloc, St.drop, zA, part, zC, depth, qD, ↓reduceIte, Nat.reduceBEq, Nat.reduceAdd, Nat.reduceSub, Nat.reduceMul, Nat.reduceEqDiff, Nat.reduceLeDiff, Nat.reduceLT, qJ, qK, qL, qM, qN, qO, qP, qQ, qR, zJ, qS, qC, qT, qU, qV, qW, qX, qY, qZ, zK, fixed, zL, wit, Option.isSome_some, qH, St.with, zE, Array.size, te, einl, inls, efr]
  · have hn : lo[i]? = some lo[i] := List.getElem?_eq_getElem a1
    have hm : hi[i]? = some hi[i] := List.getElem?_eq_getElem (by omega)
    have a4 : (i : Int) < hi.length := by omega
    have k4 := k2 i a1
    have b0 := hbk i
    have b1 := mul_in (hlo lo[i] (List.getElem_mem _)) whole
    have b2 := mul_in (hhi hi[i] (List.getElem_mem _)) whole
    have b3 := mul_in (hlo lo[i] (List.getElem_mem _)) (show 0 ≤ tot ∧ tot ≤ 1000 by omega)
    have b4 := mul_in (hhi hi[i] (List.getElem_mem _)) (show 0 ≤ tot ∧ tot ≤ 1000 by omega)
    have w1 : IntKind.i64.wrap (lo[i] * tot) = lo[i] * tot := wrap_in (by omega)
    have w2 : IntKind.i64.wrap (hi[i] * tot) = hi[i] * tot := wrap_in (by omega)
    have w3 : IntKind.i64.wrap (lo[i] * tot * den) = lo[i] * (tot * den) := by rw [Int.mul_assoc, wrap_in (by omega)]
    have w4 : IntKind.i64.wrap (hi[i] * tot * den) = hi[i] * (tot * den) := by rw [Int.mul_assoc, wrap_in (by omega)]
    rw [getD_some hn, getD_some hm] at b0
    clear b1 b2 b3 b4
    cases hib : ib i with
    | false =>
      have e1 : kp = false := by
        cases hk : kp with
        | false => rfl
        | true => rw [kiff.1 hk i a1] at hib; cases hib
      rw [hib] at b0
      generalize lo[i] = l at *
      generalize hi[i] = h at *
      simp (maxSteps := 1000000) (implicitDefEqProofs := false) only [a1, a2, a3, a4, hn, hm, k4, k3, ← b0, w1, w2, w3, w4, e1, vI, evRegion_st hok, Int.natCast_nonneg, Int.toNat_natCast, List.getElem?_map, List.length_map, Try.ntmps62, Try.results62, efc62, fc62, ss, sd, zI, qG, zG, zH, St.get, qE, qF, qB, zD, norm, look, zF, qA, qI, St.alloc, St.drop, zA, part, zC, depth, qD, ↓reduceIte, Nat.reduceBEq, Nat.reduceAdd, Nat.reduceSub, Nat.reduceMul, Nat.reduceEqDiff, Nat.reduceLeDiff, Nat.reduceLT, qJ, qK, qL, qM, qN, qO, qP, qQ, qR, zJ, qS, qC, qT, qU, qV, qW, qX, qY, qZ, zK, fixed, zL, wit, Option.isSome_some, qH, St.with, zE, Array.size, te, einl, inls, efr]
    | true =>
      have hK' : ∀ j, j < i + 1 → ib j = true := by
        intro j hj
        by_cases hji : j = i
        · subst hji; exact hib
        · exact hK j (by omega)
      rw [hib] at b0
      generalize lo[i] = l at *
      generalize hi[i] = h at *
      simp (maxSteps := 1000000) (implicitDefEqProofs := false) only [a1, a2, a3, a4, hn, hm, k4, k3, ← b0, w1, w2, w3, w4, vI, evRegion_st hok, Int.natCast_nonneg, Int.toNat_natCast, List.getElem?_map, List.length_map, ss, sd, zI, qG, zG, zH, St.get, qE, qF, qB, zD, norm, look, zF, qA, qI, St.alloc, St.drop, zA, part, zC, depth, qD, ↓reduceIte, Nat.reduceBEq, Nat.reduceAdd, Nat.reduceSub, Nat.reduceMul, Nat.reduceEqDiff, Nat.reduceLeDiff, Nat.reduceLT, qJ, qK, qL, qM, qN, qO, qP, qQ, qR, zJ, qS, qC, qT, qU, qV, qW, qX, qY, qZ, zK, fixed, zL, wit, Option.isSome_some, qH, St.with, zE, Array.size, te, einl, inls, efr]
      exact ⟨(), hK'⟩

def checkE (b : Blend) (a : Amts) : Int := if errV b = 0 then (if rightM b a = true then brokenE b a else 1) else 1
theorem checkE_zero {b : Blend} {a : Amts} (h : checkE b a = 0) : Valid b ∧ RightA b a ∧ brokenE b a = 0 := by
  unfold checkE at h
  split at h
  · rename_i h1
    split at h
    · rename_i h2
      exact ⟨errV_zero h1, rightM_iff.1 h2, h⟩
    · cases h
  · cases h
theorem brokenE_zero {b : Blend} {a : Amts} (h : brokenE b a = 0) : Stocked b a ∧ sumX a.x b.cs.length = b.tot * a.den ∧ keptB b a.x a.den = true := by
  unfold brokenE at h
  split at h
  · cases h
  · rename_i h1
    split at h
    · cases h
    · rename_i h2
      split at h
      · rename_i h3
        exact ⟨short_iff.1 (by simpa using h1), by simpa using h2, h3⟩
      · cases h

theorem okT24 : okCode (Try.f24.body.getD .skip) = true := by decide +kernel
set_option maxRecDepth 20000 in
set_option maxHeartbeats 8000000 in
theorem c24 (b : Blend) (a : Amts) : (orcω E XS).call 24 [encBlend b, encAmts a] = some (.int .i64 (checkE b a)) := by
  refine call_of rfl fn24 rfl ?_
  have hok := okT24
  simp only [Try.f24, Option.getD_some, okCode, Bool.and_eq_true, Bool.and_true, Bool.true_and] at hok
  have k1 := c16 b
  unfold checkE
  rcases errV_cases b with he | he
  rotate_left
  · rw [he] at k1 ⊢
    rw [if_neg (by decide)]
    have q1 : ((1 : Int) != 0) = true := by decide
    obtain ⟨tot, cs, lo, hi⟩ := b
    obtain ⟨den, x⟩ := a
    simp only [encBlend] at k1 ⊢
    unfold encAmts
    simp (maxSteps := 1000000) (implicitDefEqProofs := false) only [Try.ntmps24, Try.results24, efc24, fc24, k1, q1, ss, sd, zI, qG, zG, zH, St.get, qE, qF, qB, zD, norm, look, zF, qA, qI, St.alloc, St.drop, zA, part, zC, depth, qD, ↓reduceIte, Nat.reduceBEq, Nat.reduceAdd, Nat.reduceSub, Nat.reduceMul, Nat.reduceEqDiff, Nat.reduceLeDiff, Nat.reduceLT, qJ, qK, qL, qM, qN, qO, qP, qQ, qR, zJ, qS, qC, qT, qU, qV, qW, qX, qY, qZ, zK, fixed, zL, wit, Option.isSome_some, qH, St.with, zE, Array.size, te, einl, inls, efr]
  rw [he] at k1 ⊢
  rw [if_pos rfl]
  have hb := errV_zero he
  have hl := hb.2.1
  have k2 := c27 b a (by omega)
  cases hr : rightM b a with
  | false =>
    rw [hr] at k2
    rw [if_neg (by decide)]
    obtain ⟨tot, cs, lo, hi⟩ := b
    obtain ⟨den, x⟩ := a
    simp only [encBlend, encAmts] at k1 k2 ⊢
    simp (maxSteps := 1000000) (implicitDefEqProofs := false) only [Try.ntmps24, Try.results24, efc24, fc24, k1, k2, bne_self_eq_false, ss, sd, zI, qG, zG, zH, St.get, qE, qF, qB, zD, norm, look, zF, qA, qI, St.alloc, St.drop, zA, part, zC, depth, qD, ↓reduceIte, Nat.reduceBEq, Nat.reduceAdd, Nat.reduceSub, Nat.reduceMul, Nat.reduceEqDiff, Nat.reduceLeDiff, Nat.reduceLT, qJ, qK, qL, qM, qN, qO, qP, qQ, qR, zJ, qS, qC, qT, qU, qV, qW, qX, qY, qZ, zK, fixed, zL, wit, Option.isSome_some, qH, St.with, zE, Array.size, te, einl, inls, efr]
  | true =>
  rw [hr] at k2
  rw [if_pos rfl]
  have ha := rightM_iff.1 hr
  have k3 := c62 b a hb ha
  have eS := fun i => brokenE_short (b := b) (a := a) (i := i)
  have eF := brokenE_fit (b := b) (a := a)
  have eR := brokenE_rule (b := b) (a := a)
  have eO := brokenE_ok (b := b) (a := a)
  have hst := st_in hb
  have ht := hb.1
  obtain ⟨d1, d2, d3⟩ := ha
  have hsx := sumX_in d3
  have hsa := fun i c => stAt_some (b := b) (i := i) (c := c)
  have whole := mul_in (a := b.tot) (b := a.den) (A := 1000) (B := 1048576) (by omega) (by omega)
  unfold Stocked at eF eR eO
  generalize brokenE b a = res at *
  generalize keptB b a.x a.den = kp at *
  generalize stAt b = sa at *
  clear hr he
  obtain ⟨tot, cs, lo, hi⟩ := b
  obtain ⟨den, x⟩ := a
  clear hb
  simp only [encBlend, encAmts] at k1 k2 k3 ⊢
  dsimp only at *
  have w0 : IntKind.i64.wrap (tot * den) = tot * den := wrap_in (by omega)
  simp (maxSteps := 1000000) (implicitDefEqProofs := false) only [Try.ntmps24, Try.results24, efc24, fc24, k1, k2, bne_self_eq_false, List.length_map, ss, sd, zI, qG, zG, zH, St.get, qE, qF, qB, zD, norm, look, zF, qA, qI, St.alloc, St.drop, zA, part, zC, depth, qD, ↓reduceIte, Nat.reduceBEq, Nat.reduceAdd, Nat.reduceSub, Nat.reduceMul, Nat.reduceEqDiff, Nat.reduceLeDiff, Nat.reduceLT, qJ, qK, qL, qM, qN, qO, qP, qQ, qR, zJ, qS, qC, qT, qU, qV, qW, qX, qY, qZ, zK, fixed, zL, wit, Option.isSome_some, qH, St.with, zE, Array.size, te, einl, inls, efr]
  generalize hr : loopAt _ _ _ _ _ _ = r; revert r
  refine loop_nat cs.length (fun i _ => [(6, .int .i64 (sumX x i)), (7, .int .i64 (i : Nat))]) (fun _ _ => []) (fun i (_ : Unit) => ∀ j, j < i → ¬ sa j * den < x.getD j 0) () (by omega) (by simp (maxSteps := 1000000) (implicitDefEqProofs := false) only [sumX, Int.natCast_zero, ss, sd, zI, qG, zG, zH, St.get, qE, qF, qB, zD, norm, look, zF, qA, qI, St.alloc, St.drop, zA, part, zC, depth, qD, ↓reduceIte, Nat.reduceBEq, Nat.reduceAdd, Nat.reduceSub, Nat.reduceMul, Nat.reduceEqDiff, Nat.reduceLeDiff, Nat.reduceLT, qJ, qK, qL, qM, qN, qO, qP, qQ, qR, zJ, qS, qC, qT, qU, qV, qW, qX, qY, qZ, zK, fixed, zL, wit, Option.isSome_some, qH, St.with, zE, Array.size, te, einl, inls, efr]) (fun _ h => by omega) (fun _ hS => ?_) (fun i _ hS a1 a2 a3 => ?_)
  rotate_left
  · have hc : cs[i]? = some cs[i] := List.getElem?_eq_getElem a1
    have hn : x[i]? = some x[i] := List.getElem?_eq_getElem (by omega)
    have e1 := sumX_step hn
    have e2 := hsa i _ hc
    have e3 := getD_some hn
    have e4 := eS i a1
    have b0 := mul_in (hst cs[i] (List.getElem_mem _)) (show 0 ≤ den ∧ den ≤ 1048576 by omega)
    have b2 := hsx (i + 1) (by omega)
    have w1 : IntKind.i64.wrap (cs[i].st * den) = cs[i].st * den := wrap_in (by omega)
    have w2 : IntKind.i64.wrap (sumX x i + x[i]) = sumX x (i + 1) := by rw [← e1, wrap_in (by omega)]
    have a4 : (i : Int) < x.length := by omega
    rw [e2, e3] at e4
    by_cases hlt : cs[i].st * den < x[i]
    · have e5 := e4 hlt
      clear e4 b0 b2 e1
      generalize cs[i] = c at *
      generalize x[i] = n at *
      simp (maxSteps := 1000000) (implicitDefEqProofs := false) only [a1, a2, a3, a4, hc, hn, w1, hlt, e5, encCem, vI, evRegion_st hok, Int.natCast_nonneg, Int.toNat_natCast, List.getElem?_map, List.length_map, Try.ntmps24, Try.results24, efc24, fc24, ss, sd, zI, qG, zG, zH, St.get, qE, qF, qB, zD, norm, look, zF, qA, qI, St.alloc, St.drop, zA, part, zC, depth, qD, ↓reduceIte, Nat.reduceBEq, Nat.reduceAdd, Nat.reduceSub, Nat.reduceMul, Nat.reduceEqDiff, Nat.reduceLeDiff, Nat.reduceLT, qJ, qK, qL, qM, qN, qO, qP, qQ, qR, zJ, qS, qC, qT, qU, qV, qW, qX, qY, qZ, zK, fixed, zL, wit, Option.isSome_some, qH, St.with, zE, Array.size, te, einl, inls, efr]
    · have hS' : ∀ j, j < i + 1 → ¬ sa j * den < x.getD j 0 := by
        intro j hj
        by_cases hji : j = i
        · subst hji; rw [e2, e3]; exact hlt
        · exact hS j (by omega)
      clear e4 b0 b2 e1
      generalize cs[i] = c at *
      generalize x[i] = n at *
      simp (maxSteps := 1000000) (implicitDefEqProofs := false) only [a1, a2, a3, a4, hc, hn, w1, w2, hlt, encCem, vI, evRegion_st hok, Int.natCast_nonneg, Int.toNat_natCast, List.getElem?_map, List.length_map, ss, sd, zI, qG, zG, zH, St.get, qE, qF, qB, zD, norm, look, zF, qA, qI, St.alloc, St.drop, zA, part, zC, depth, qD, ↓reduceIte, Nat.reduceBEq, Nat.reduceAdd, Nat.reduceSub, Nat.reduceMul, Nat.reduceEqDiff, Nat.reduceLeDiff, Nat.reduceLT, qJ, qK, qL, qM, qN, qO, qP, qQ, qR, zJ, qS, qC, qT, qU, qV, qW, qX, qY, qZ, zK, fixed, zL, wit, Option.isSome_some, qH, St.with, zE, Array.size, te, einl, inls, efr]
      exact ⟨(), hS'⟩
  by_cases hF : sumX x cs.length = tot * den
  rotate_left
  · have e1 := eF hS hF
    have q1 : (sumX x cs.length != tot * den) = true := by simpa using hF
    simp (maxSteps := 1000000) (implicitDefEqProofs := false) only [Int.lt_irrefl, d2, w0, q1, e1, List.length_map, Try.ntmps24, Try.results24, efc24, fc24, ss, sd, zI, qG, zG, zH, St.get, qE, qF, qB, zD, norm, look, zF, qA, qI, St.alloc, St.drop, zA, part, zC, depth, qD, ↓reduceIte, Nat.reduceBEq, Nat.reduceAdd, Nat.reduceSub, Nat.reduceMul, Nat.reduceEqDiff, Nat.reduceLeDiff, Nat.reduceLT, qJ, qK, qL, qM, qN, qO, qP, qQ, qR, zJ, qS, qC, qT, qU, qV, qW, qX, qY, qZ, zK, fixed, zL, wit, Option.isSome_some, qH, St.with, zE, Array.size, te, einl, inls, efr]
  have q1 : (sumX x cs.length != tot * den) = false := by simpa using hF
  cases hk : kp with
  | false =>
    have e1 := eR hS hF hk
    rw [hk] at k3
    simp (maxSteps := 1000000) (implicitDefEqProofs := false) only [Int.lt_irrefl, d2, w0, q1, e1, k3, List.length_map, Try.ntmps24, Try.results24, efc24, fc24, ss, sd, zI, qG, zG, zH, St.get, qE, qF, qB, zD, norm, look, zF, qA, qI, St.alloc, St.drop, zA, part, zC, depth, qD, ↓reduceIte, Nat.reduceBEq, Nat.reduceAdd, Nat.reduceSub, Nat.reduceMul, Nat.reduceEqDiff, Nat.reduceLeDiff, Nat.reduceLT, qJ, qK, qL, qM, qN, qO, qP, qQ, qR, zJ, qS, qC, qT, qU, qV, qW, qX, qY, qZ, zK, fixed, zL, wit, Option.isSome_some, qH, St.with, zE, Array.size, te, einl, inls, efr]
  | true =>
    have e1 := eO hS hF hk
    rw [hk] at k3
    simp (maxSteps := 1000000) (implicitDefEqProofs := false) only [Int.lt_irrefl, d2, w0, q1, e1, k3, List.length_map, Try.ntmps24, Try.results24, efc24, fc24, ss, sd, zI, qG, zG, zH, St.get, qE, qF, qB, zD, norm, look, zF, qA, qI, St.alloc, St.drop, zA, part, zC, depth, qD, ↓reduceIte, Nat.reduceBEq, Nat.reduceAdd, Nat.reduceSub, Nat.reduceMul, Nat.reduceEqDiff, Nat.reduceLeDiff, Nat.reduceLT, qJ, qK, qL, qM, qN, qO, qP, qQ, qR, zJ, qS, qC, qT, qU, qV, qW, qX, qY, qZ, zK, fixed, zL, wit, Option.isSome_some, qH, St.with, zE, Array.size, te, einl, inls, efr]
end Go.AM.E

