/-
The greatest common divisor of numbers of 640 bits.
-/
import Derived.Test.YteocppddjlglbaaFPrimD
set_option linter.unusedVariables false
set_option linter.unusedSimpArgs false
set_option maxRecDepth 20000

namespace Go.AM.F
open Go Go.AM Go.Proofs

theorem gcd_half_l {a b : Nat} (ha : a % 2 = 0) (hb : b % 2 = 1) : Nat.gcd (a / 2) b = Nat.gcd a b := by
  have e : a = 2 * (a / 2) := by omega
  conv => rhs; rw [e]
  have hc : Nat.Coprime 2 b := by
    unfold Nat.Coprime
    rw [Nat.gcd_rec, hb]
    decide
  exact (Nat.Coprime.gcd_mul_left_cancel _ hc).symm
theorem gcd_half_r {a b : Nat} (hb : b % 2 = 0) (ha : a % 2 = 1) : Nat.gcd a (b / 2) = Nat.gcd a b := by
  rw [Nat.gcd_comm, gcd_half_l hb ha, Nat.gcd_comm]
theorem in20 : (0 : Int) < 20 := by decide
theorem low_get (a : Nat) : ((wd a).map vW)[0]? = some (.int .u32 ((a % 4294967296 : Nat) : Int)) := rfl
theorem and_one (a : Nat) : bitsI .and .u32 ((a % 4294967296 : Nat) : Int) 1 = ((a % 2 : Nat) : Int) := by
  have := bits_and (a % 4294967296) 1 (by omega) (by omega)
  rw [Nat.and_one_is_mod] at this
  refine this.trans ?_
  congr 1
  omega
theorem toNat0 : Int.toNat 0 = 0 := rfl

theorem eq_zeros : ∀ l : List Nat, eqCells (l.map vW) ((List.replicate l.length 0).map vW) = some (decide (valW l = 0))
  | [] => rfl
  | w :: r => by
    simp only [List.length_cons, List.replicate_succ, List.map_cons, vW, eqCells, if_true]
    rw [eq_zeros r]
    simp only [valW]
    congr 1
    by_cases h : w = 0
    · subst h; simp only [Nat.zero_add]; simp; omega
    · have : ((w : Int) == ((0 : Nat) : Int)) = false := by simp [h]
      rw [this, Bool.false_and]
      exact (decide_eq_false (by omega)).symm
theorem is_zero {a : Nat} (ha : a < big) : eqA E 54 (.agg ((wd a).map vW)) (.agg [.int .u32 0, .int .u32 0, .int .u32 0, .int .u32 0, .int .u32 0, .int .u32 0, .int .u32 0, .int .u32 0, .int .u32 0, .int .u32 0, .int .u32 0, .int .u32 0, .int .u32 0, .int .u32 0, .int .u32 0, .int .u32 0, .int .u32 0, .int .u32 0, .int .u32 0, .int .u32 0]) = some (decide (a = 0)) := by
  have := eq_zeros (wd a)
  rw [wd_val ha, wd_len] at this
  unfold eqA
  rw [ty54]
  simp only [ti54]
  rw [if_pos ⟨trivial, by decide, by rw [List.length_map, wd_len], rfl⟩]
  exact this

theorem cmp_low (a b : Nat) : decide (cmpN a b < 0) = decide (a < b) := by
  unfold cmpN
  by_cases h : a < b
  · rw [if_pos h, decide_eq_true h]; rfl
  · rw [if_neg h, decide_eq_false h]
    split <;> decide
theorem okT30 : okCode (Try.f30.body.getD .skip) = true := by decide +kernel
set_option maxHeartbeats 8000000 in
theorem c30 (a0 b0 : Nat) (ha : a0 < big) (hb : b0 < big) (ha0 : a0 ≠ 0) (hb0 : b0 ≠ 0) : (orcω E X0).call 30 [nV a0, nV b0] = some (nV (Nat.gcd a0 b0)) := by
  refine call_of rfl fn30 rfl ?_
  have hok := okT30
  simp only [Try.f30, Option.getD_some, okCode, Bool.and_eq_true, Bool.and_true, Bool.true_and] at hok
  simp (maxSteps := 1000000) (implicitDefEqProofs := false) only [nV, natV, nn, Try.ntmps30, Try.results30, efc30, fc30, ss, sd, zH, qG, zF, zG, St.get, qE, qF, qB, zC, norm, look, zE, qA, qI, St.alloc, St.drop, zA, part, zB, depth, qD, ↓reduceIte, Nat.reduceBEq, Nat.reduceAdd, Nat.reduceSub, Nat.reduceMul, Nat.reduceEqDiff, Nat.reduceLeDiff, Nat.reduceLT, qJ, qK, qL, qM, qN, qO, qP, qQ, qR, zI, qS, qC, qT, evSlice0, qV, qW, qX, qY, qZ, zJ, zK, zL, wit, Option.isSome_some, qH, xK, evPre, St.with, zD, Array.size, toldV, isIntV, orArr, offB, effFr, effFr2, effFr3, mapIn, restSame, sameO, eqW, eqWL, pickR, te, einl, inls, efr]
  generalize hr : loopAt _ _ _ _ _ _ = r; revert r
  refine loop_inv (ι := { x : Nat × Nat × Nat // x.1 ≠ 0 ∧ x.2.1 ≠ 0 ∧ x.1 * 2 ^ x.2.2 = a0 ∧ x.2.1 * 2 ^ x.2.2 = b0 }) (fun i => [(5, .int .i64 ((i.1.2.2 : Nat) : Int))]) (fun i => [(2, natOb (wd i.1.1)), (3, natOb (wd i.1.2.1))]) (fun i => i.1.1) ⟨(a0, b0, 0), ha0, hb0, by simp, by simp⟩ (by simp (maxSteps := 1000000) (implicitDefEqProofs := false) only [natOb, natV, Int.natCast_zero, ss, sd, zH, qG, zF, zG, St.get, qE, qF, qB, zC, norm, look, zE, qA, qI, St.alloc, St.drop, zA, part, zB, depth, qD, ↓reduceIte, Nat.reduceBEq, Nat.reduceAdd, Nat.reduceSub, Nat.reduceMul, Nat.reduceEqDiff, Nat.reduceLeDiff, Nat.reduceLT, qJ, qK, qL, qM, qN, qO, qP, qQ, qR, zI, qS, qC, qT, evSlice0, qV, qW, qX, qY, qZ, zJ, zK, zL, wit, Option.isSome_some, qH, xK, evPre, St.with, zD, Array.size, toldV, isIntV, orArr, offB, effFr, effFr2, effFr3, mapIn, restSame, sameO, eqW, eqWL, pickR, te, einl, inls, efr]) ?_
  rintro ⟨⟨a, b, k⟩, h1, h2, h3, h4⟩
  dsimp only at h1 h2 h3 h4 ⊢
  have hp := Nat.two_pow_pos k
  have hab : a < big := Nat.lt_of_le_of_lt (by rw [← h3]; exact Nat.le_mul_of_pos_right _ hp) ha
  have hbb : b < big := Nat.lt_of_le_of_lt (by rw [← h4]; exact Nat.le_mul_of_pos_right _ hp) hb
  have hk : k < 640 := by
    have : 2 ^ k < 2 ^ 640 := by
      rw [← big_eq]
      exact Nat.lt_of_le_of_lt (by rw [← h3]; exact Nat.le_mul_of_pos_left _ (by omega)) ha
    exact (Nat.pow_lt_pow_iff_right (by decide : 1 < 2)).1 this
  have w1 : IntKind.i64.wrap ((k : Int) + 1) = ((k + 1 : Nat) : Int) := by rw [wrap_in (by omega)]; omega
  by_cases hboth : a % 2 = 0 ∧ b % 2 = 0
  · obtain ⟨hae, hbe⟩ := hboth
    have q1 : (((a % 2 : Nat) : Int) == 0) = true := by rw [hae]; rfl
    have q2 : (((b % 2 : Nat) : Int) == 0) = true := by rw [hbe]; rfl
    have d1 := k42 a hab
    have d2 := k42 b hbb
    simp only [nV, natV] at d1 d2
    simp (maxSteps := 1000000) (implicitDefEqProofs := false) only [natOb, natV, nn, i20, in20, Int.le_refl, toNat0, low_get, and_one, q1, q2, evRegion_st hok, d1, d2, w1, ss, sd, zH, qG, zF, zG, St.get, qE, qF, qB, zC, norm, look, zE, qA, qI, St.alloc, St.drop, zA, part, zB, depth, qD, ↓reduceIte, Nat.reduceBEq, Nat.reduceAdd, Nat.reduceSub, Nat.reduceMul, Nat.reduceEqDiff, Nat.reduceLeDiff, Nat.reduceLT, qJ, qK, qL, qM, qN, qO, qP, qQ, qR, zI, qS, qC, qT, evSlice0, qV, qW, qX, qY, qZ, zJ, zK, zL, wit, Option.isSome_some, qH, xK, evPre, St.with, zD, Array.size, toldV, isIntV, orArr, offB, effFr, effFr2, effFr3, mapIn, restSame, sameO, eqW, eqWL, pickR, te, einl, inls, efr]
    refine ⟨⟨(a / 2, b / 2, k + 1), by dsimp only; omega, by dsimp only; omega, ?_, ?_⟩, rfl, by dsimp only; omega⟩
    · dsimp only; rw [Nat.pow_succ', ← Nat.mul_assoc, show a / 2 * 2 = a by omega, h3]
    · dsimp only; rw [Nat.pow_succ', ← Nat.mul_assoc, show b / 2 * 2 = b by omega, h4]
  have hodd : a % 2 = 1 ∨ b % 2 = 1 := by omega
  have hgk : Nat.gcd a b * 2 ^ k = Nat.gcd a0 b0 := by rw [← h3, ← h4, Nat.gcd_mul_right]
  have hgb : ∀ g, g * 2 ^ k = Nat.gcd a0 b0 → g * 2 ^ k < big := fun g h => by
    rw [h]; exact Nat.lt_of_le_of_lt (Nat.gcd_le_left _ (by omega)) ha
  rcases (show (a % 2 = 1) ∨ (a % 2 = 0 ∧ b % 2 = 1) by omega) with hao | ⟨hae, hbo⟩
  · have q1 : (((a % 2 : Nat) : Int) == 0) = false := by rw [hao]; rfl
    simp (maxSteps := 1000000) (implicitDefEqProofs := false) only [natOb, natV, nn, i20, in20, Int.le_refl, toNat0, low_get, and_one, q1, ss, sd, zH, qG, zF, zG, St.get, qE, qF, qB, zC, norm, look, zE, qA, qI, St.alloc, St.drop, zA, part, zB, depth, qD, ↓reduceIte, Nat.reduceBEq, Nat.reduceAdd, Nat.reduceSub, Nat.reduceMul, Nat.reduceEqDiff, Nat.reduceLeDiff, Nat.reduceLT, qJ, qK, qL, qM, qN, qO, qP, qQ, qR, zI, qS, qC, qT, evSlice0, qV, qW, qX, qY, qZ, zJ, zK, zL, wit, Option.isSome_some, qH, xK, evPre, St.with, zD, Array.size, toldV, isIntV, orArr, offB, effFr, effFr2, effFr3, mapIn, restSame, sameO, eqW, eqWL, pickR, te, einl, inls, efr]
    clear q1 hao
    generalize hr : loopAt _ _ _ _ _ _ = r; revert r
    refine loop_inv (ι := { x : Nat × Nat // x.2 ≠ 0 ∧ (x.1 % 2 = 1 ∨ x.2 % 2 = 1) ∧ Nat.gcd x.1 x.2 * 2 ^ k = Nat.gcd a0 b0 ∧ x.1 < big ∧ x.2 < big }) (fun _ => []) (fun i => [(2, natOb (wd i.1.1)), (3, natOb (wd i.1.2))]) (fun i => i.1.1 + i.1.2) ⟨(a, b), h2, hodd, hgk, hab, hbb⟩ (by simp (maxSteps := 1000000) (implicitDefEqProofs := false) only [natOb, natV, ss, sd, zH, qG, zF, zG, St.get, qE, qF, qB, zC, norm, look, zE, qA, qI, St.alloc, St.drop, zA, part, zB, depth, qD, ↓reduceIte, Nat.reduceBEq, Nat.reduceAdd, Nat.reduceSub, Nat.reduceMul, Nat.reduceEqDiff, Nat.reduceLeDiff, Nat.reduceLT, qJ, qK, qL, qM, qN, qO, qP, qQ, qR, zI, qS, qC, qT, evSlice0, qV, qW, qX, qY, qZ, zJ, zK, zL, wit, Option.isSome_some, qH, xK, evPre, St.with, zD, Array.size, toldV, isIntV, orArr, offB, effFr, effFr2, effFr3, mapIn, restSame, sameO, eqW, eqWL, pickR, te, einl, inls, efr]) ?_
    clear hodd hgk h1 h2 h3 h4 hboth hab hbb
    rintro ⟨⟨a, b⟩, h2, hodd, hgk, hab, hbb⟩
    dsimp only at h2 hodd hgk hab hbb ⊢
    have hz := is_zero hab
    by_cases hz0 : a = 0
    · subst hz0
      rw [Nat.gcd_zero_left] at hgk
      have d1 := c45 b k hbb (by omega) (hgb _ hgk)
      rw [hgk] at d1
      simp only [nV, natV] at d1
      simp (maxSteps := 1000000) (implicitDefEqProofs := false) only [natOb, natV, nn, hz, decide_true, Bool.not_true, Option.map_some, d1, d20, List.append_nil, Try.ntmps30, Try.results30, efc30, fc30, ss, sd, zH, qG, zF, zG, St.get, qE, qF, qB, zC, norm, look, zE, qA, qI, St.alloc, St.drop, zA, part, zB, depth, qD, ↓reduceIte, Nat.reduceBEq, Nat.reduceAdd, Nat.reduceSub, Nat.reduceMul, Nat.reduceEqDiff, Nat.reduceLeDiff, Nat.reduceLT, qJ, qK, qL, qM, qN, qO, qP, qQ, qR, zI, qS, qC, qT, evSlice0, qV, qW, qX, qY, qZ, zJ, zK, zL, wit, Option.isSome_some, qH, xK, evPre, St.with, zD, Array.size, toldV, isIntV, orArr, offB, effFr, effFr2, effFr3, mapIn, restSame, sameO, eqW, eqWL, pickR, te, einl, inls, efr]
    rw [decide_eq_false hz0] at hz
    simp (maxSteps := 1000000) (implicitDefEqProofs := false) only [natOb, natV, nn, hz, Bool.not_false, Option.map_some, ss, sd, zH, qG, zF, zG, St.get, qE, qF, qB, zC, norm, look, zE, qA, qI, St.alloc, St.drop, zA, part, zB, depth, qD, ↓reduceIte, Nat.reduceBEq, Nat.reduceAdd, Nat.reduceSub, Nat.reduceMul, Nat.reduceEqDiff, Nat.reduceLeDiff, Nat.reduceLT, qJ, qK, qL, qM, qN, qO, qP, qQ, qR, zI, qS, qC, qT, evSlice0, qV, qW, qX, qY, qZ, zJ, zK, zL, wit, Option.isSome_some, qH, xK, evPre, St.with, zD, Array.size, toldV, isIntV, orArr, offB, effFr, effFr2, effFr3, mapIn, restSame, sameO, eqW, eqWL, pickR, te, einl, inls, efr]
    generalize hr : loopAt _ _ _ _ _ _ = r; revert r
    refine loop_inv (ι := { x : Nat // x ≠ 0 ∧ (x % 2 = 1 ∨ b % 2 = 1) ∧ Nat.gcd x b = Nat.gcd a b ∧ x ≤ a }) (fun _ => []) (fun i => [(2, natOb (wd i.1))]) (fun i => i.1) ⟨a, hz0, hodd, rfl, Nat.le_refl _⟩ (by simp (maxSteps := 1000000) (implicitDefEqProofs := false) only [natOb, natV, ss, sd, zH, qG, zF, zG, St.get, qE, qF, qB, zC, norm, look, zE, qA, qI, St.alloc, St.drop, zA, part, zB, depth, qD, ↓reduceIte, Nat.reduceBEq, Nat.reduceAdd, Nat.reduceSub, Nat.reduceMul, Nat.reduceEqDiff, Nat.reduceLeDiff, Nat.reduceLT, qJ, qK, qL, qM, qN, qO, qP, qQ, qR, zI, qS, qC, qT, evSlice0, qV, qW, qX, qY, qZ, zJ, zK, zL, wit, Option.isSome_some, qH, xK, evPre, St.with, zD, Array.size, toldV, isIntV, orArr, offB, effFr, effFr2, effFr3, mapIn, restSame, sameO, eqW, eqWL, pickR, te, einl, inls, efr]) ?_
    rintro ⟨x, hx0, hxo, hxg, hxl⟩
    have hxb : x < big := by omega
    by_cases hxe : x % 2 = 0
    · have q3 : (((x % 2 : Nat) : Int) == 0) = true := by rw [hxe]; rfl
      have d1 := k42 x hxb
      simp only [nV, natV] at d1
      simp (maxSteps := 1000000) (implicitDefEqProofs := false) only [natOb, natV, nn, i20, in20, Int.le_refl, toNat0, low_get, and_one, q3, d1, ss, sd, zH, qG, zF, zG, St.get, qE, qF, qB, zC, norm, look, zE, qA, qI, St.alloc, St.drop, zA, part, zB, depth, qD, ↓reduceIte, Nat.reduceBEq, Nat.reduceAdd, Nat.reduceSub, Nat.reduceMul, Nat.reduceEqDiff, Nat.reduceLeDiff, Nat.reduceLT, qJ, qK, qL, qM, qN, qO, qP, qQ, qR, zI, qS, qC, qT, evSlice0, qV, qW, qX, qY, qZ, zJ, zK, zL, wit, Option.isSome_some, qH, xK, evPre, St.with, zD, Array.size, toldV, isIntV, orArr, offB, effFr, effFr2, effFr3, mapIn, restSame, sameO, eqW, eqWL, pickR, te, einl, inls, efr]
      refine ⟨⟨x / 2, by omega, .inr (by omega), by rw [gcd_half_l hxe (by omega), hxg], by omega⟩, rfl, by dsimp only; omega⟩
    have q3 : (((x % 2 : Nat) : Int) == 0) = false := by rw [show x % 2 = 1 by omega]; rfl
    simp (maxSteps := 1000000) (implicitDefEqProofs := false) only [natOb, natV, nn, i20, in20, Int.le_refl, toNat0, low_get, and_one, q3, ss, sd, zH, qG, zF, zG, St.get, qE, qF, qB, zC, norm, look, zE, qA, qI, St.alloc, St.drop, zA, part, zB, depth, qD, ↓reduceIte, Nat.reduceBEq, Nat.reduceAdd, Nat.reduceSub, Nat.reduceMul, Nat.reduceEqDiff, Nat.reduceLeDiff, Nat.reduceLT, qJ, qK, qL, qM, qN, qO, qP, qQ, qR, zI, qS, qC, qT, evSlice0, qV, qW, qX, qY, qZ, zJ, zK, zL, wit, Option.isSome_some, qH, xK, evPre, St.with, zD, Array.size, toldV, isIntV, orArr, offB, effFr, effFr2, effFr3, mapIn, restSame, sameO, eqW, eqWL, pickR, te, einl, inls, efr]
    generalize hr : loopAt _ _ _ _ _ _ = r; revert r
    refine loop_inv (ι := { y : Nat // y ≠ 0 ∧ Nat.gcd x y = Nat.gcd a b ∧ y ≤ b }) (fun _ => []) (fun i => [(3, natOb (wd i.1))]) (fun i => i.1) ⟨b, h2, hxg, Nat.le_refl _⟩ (by simp (maxSteps := 1000000) (implicitDefEqProofs := false) only [natOb, natV, ss, sd, zH, qG, zF, zG, St.get, qE, qF, qB, zC, norm, look, zE, qA, qI, St.alloc, St.drop, zA, part, zB, depth, qD, ↓reduceIte, Nat.reduceBEq, Nat.reduceAdd, Nat.reduceSub, Nat.reduceMul, Nat.reduceEqDiff, Nat.reduceLeDiff, Nat.reduceLT, qJ, qK, qL, qM, qN, qO, qP, qQ, qR, zI, qS, qC, qT, evSlice0, qV, qW, qX, qY, qZ, zJ, zK, zL, wit, Option.isSome_some, qH, xK, evPre, St.with, zD, Array.size, toldV, isIntV, orArr, offB, effFr, effFr2, effFr3, mapIn, restSame, sameO, eqW, eqWL, pickR, te, einl, inls, efr]) ?_
    rintro ⟨y, hy0, hyg, hyl⟩
    have hyb : y < big := by omega
    by_cases hye : y % 2 = 0
    · have q4 : (((y % 2 : Nat) : Int) == 0) = true := by rw [hye]; rfl
      have d1 := k42 y hyb
      simp only [nV, natV] at d1
      simp (maxSteps := 1000000) (implicitDefEqProofs := false) only [natOb, natV, nn, i20, in20, Int.le_refl, toNat0, low_get, and_one, q4, d1, ss, sd, zH, qG, zF, zG, St.get, qE, qF, qB, zC, norm, look, zE, qA, qI, St.alloc, St.drop, zA, part, zB, depth, qD, ↓reduceIte, Nat.reduceBEq, Nat.reduceAdd, Nat.reduceSub, Nat.reduceMul, Nat.reduceEqDiff, Nat.reduceLeDiff, Nat.reduceLT, qJ, qK, qL, qM, qN, qO, qP, qQ, qR, zI, qS, qC, qT, evSlice0, qV, qW, qX, qY, qZ, zJ, zK, zL, wit, Option.isSome_some, qH, xK, evPre, St.with, zD, Array.size, toldV, isIntV, orArr, offB, effFr, effFr2, effFr3, mapIn, restSame, sameO, eqW, eqWL, pickR, te, einl, inls, efr]
      refine ⟨⟨y / 2, by omega, by rw [gcd_half_r hye (by omega), hyg], by omega⟩, rfl, by dsimp only; omega⟩
    have q4 : (((y % 2 : Nat) : Int) == 0) = false := by rw [show y % 2 = 1 by omega]; rfl
    have d1 := k43 x y hxb hyb
    have d2 := cmp_low x y
    by_cases hlt : x < y
    · have d3 := k44 y x hyb hxb (by omega)
      rw [decide_eq_true hlt] at d2
      simp only [nV, natV] at d1 d3
      simp (maxSteps := 1000000) (implicitDefEqProofs := false) only [natOb, natV, nn, i20, in20, Int.le_refl, toNat0, low_get, and_one, q4, d1, d2, d3, ss, sd, zH, qG, zF, zG, St.get, qE, qF, qB, zC, norm, look, zE, qA, qI, St.alloc, St.drop, zA, part, zB, depth, qD, ↓reduceIte, Nat.reduceBEq, Nat.reduceAdd, Nat.reduceSub, Nat.reduceMul, Nat.reduceEqDiff, Nat.reduceLeDiff, Nat.reduceLT, qJ, qK, qL, qM, qN, qO, qP, qQ, qR, zI, qS, qC, qT, evSlice0, qV, qW, qX, qY, qZ, zJ, zK, zL, wit, Option.isSome_some, qH, xK, evPre, St.with, zD, Array.size, toldV, isIntV, orArr, offB, effFr, effFr2, effFr3, mapIn, restSame, sameO, eqW, eqWL, pickR, te, einl, inls, efr]
      refine ⟨⟨(y - x, x), hx0, .inr (by dsimp only; omega), ?_, by dsimp only; omega, hxb⟩, rfl, by dsimp only; omega⟩
      dsimp only
      rw [Nat.gcd_sub_self_left (by omega), Nat.gcd_comm, hyg, hgk]
    · have d3 := k44 x y hxb hyb (by omega)
      rw [decide_eq_false hlt] at d2
      simp only [nV, natV] at d1 d3
      simp (maxSteps := 1000000) (implicitDefEqProofs := false) only [natOb, natV, nn, i20, in20, Int.le_refl, toNat0, low_get, and_one, q4, d1, d2, d3, ss, sd, zH, qG, zF, zG, St.get, qE, qF, qB, zC, norm, look, zE, qA, qI, St.alloc, St.drop, zA, part, zB, depth, qD, ↓reduceIte, Nat.reduceBEq, Nat.reduceAdd, Nat.reduceSub, Nat.reduceMul, Nat.reduceEqDiff, Nat.reduceLeDiff, Nat.reduceLT, qJ, qK, qL, qM, qN, qO, qP, qQ, qR, zI, qS, qC, qT, evSlice0, qV, qW, qX, qY, qZ, zJ, zK, zL, wit, Option.isSome_some, qH, xK, evPre, St.with, zD, Array.size, toldV, isIntV, orArr, offB, effFr, effFr2, effFr3, mapIn, restSame, sameO, eqW, eqWL, pickR, te, einl, inls, efr]
      refine ⟨⟨(x - y, y), hy0, .inr (by dsimp only; omega), ?_, by dsimp only; omega, hyb⟩, rfl, by dsimp only; omega⟩
      dsimp only
      rw [Nat.gcd_sub_self_left (by omega), hyg, hgk]
  · have q1 : (((a % 2 : Nat) : Int) == 0) = true := by rw [hae]; rfl
    have q2 : (((b % 2 : Nat) : Int) == 0) = false := by rw [hbo]; rfl
    simp (maxSteps := 1000000) (implicitDefEqProofs := false) only [natOb, natV, nn, i20, in20, Int.le_refl, toNat0, low_get, and_one, q1, q2, ss, sd, zH, qG, zF, zG, St.get, qE, qF, qB, zC, norm, look, zE, qA, qI, St.alloc, St.drop, zA, part, zB, depth, qD, ↓reduceIte, Nat.reduceBEq, Nat.reduceAdd, Nat.reduceSub, Nat.reduceMul, Nat.reduceEqDiff, Nat.reduceLeDiff, Nat.reduceLT, qJ, qK, qL, qM, qN, qO, qP, qQ, qR, zI, qS, qC, qT, evSlice0, qV, qW, qX, qY, qZ, zJ, zK, zL, wit, Option.isSome_some, qH, xK, evPre, St.with, zD, Array.size, toldV, isIntV, orArr, offB, effFr, effFr2, effFr3, mapIn, restSame, sameO, eqW, eqWL, pickR, te, einl, inls, efr]
    clear q1 q2 hae hbo
    generalize hr : loopAt _ _ _ _ _ _ = r; revert r
    refine loop_inv (ι := { x : Nat × Nat // x.2 ≠ 0 ∧ (x.1 % 2 = 1 ∨ x.2 % 2 = 1) ∧ Nat.gcd x.1 x.2 * 2 ^ k = Nat.gcd a0 b0 ∧ x.1 < big ∧ x.2 < big }) (fun _ => []) (fun i => [(2, natOb (wd i.1.1)), (3, natOb (wd i.1.2))]) (fun i => i.1.1 + i.1.2) ⟨(a, b), h2, hodd, hgk, hab, hbb⟩ (by simp (maxSteps := 1000000) (implicitDefEqProofs := false) only [natOb, natV, ss, sd, zH, qG, zF, zG, St.get, qE, qF, qB, zC, norm, look, zE, qA, qI, St.alloc, St.drop, zA, part, zB, depth, qD, ↓reduceIte, Nat.reduceBEq, Nat.reduceAdd, Nat.reduceSub, Nat.reduceMul, Nat.reduceEqDiff, Nat.reduceLeDiff, Nat.reduceLT, qJ, qK, qL, qM, qN, qO, qP, qQ, qR, zI, qS, qC, qT, evSlice0, qV, qW, qX, qY, qZ, zJ, zK, zL, wit, Option.isSome_some, qH, xK, evPre, St.with, zD, Array.size, toldV, isIntV, orArr, offB, effFr, effFr2, effFr3, mapIn, restSame, sameO, eqW, eqWL, pickR, te, einl, inls, efr]) ?_
    clear hodd hgk h1 h2 h3 h4 hboth hab hbb
    rintro ⟨⟨a, b⟩, h2, hodd, hgk, hab, hbb⟩
    dsimp only at h2 hodd hgk hab hbb ⊢
    have hz := is_zero hab
    by_cases hz0 : a = 0
    · subst hz0
      rw [Nat.gcd_zero_left] at hgk
      have d1 := c45 b k hbb (by omega) (hgb _ hgk)
      rw [hgk] at d1
      simp only [nV, natV] at d1
      simp (maxSteps := 1000000) (implicitDefEqProofs := false) only [natOb, natV, nn, hz, decide_true, Bool.not_true, Option.map_some, d1, d20, List.append_nil, Try.ntmps30, Try.results30, efc30, fc30, ss, sd, zH, qG, zF, zG, St.get, qE, qF, qB, zC, norm, look, zE, qA, qI, St.alloc, St.drop, zA, part, zB, depth, qD, ↓reduceIte, Nat.reduceBEq, Nat.reduceAdd, Nat.reduceSub, Nat.reduceMul, Nat.reduceEqDiff, Nat.reduceLeDiff, Nat.reduceLT, qJ, qK, qL, qM, qN, qO, qP, qQ, qR, zI, qS, qC, qT, evSlice0, qV, qW, qX, qY, qZ, zJ, zK, zL, wit, Option.isSome_some, qH, xK, evPre, St.with, zD, Array.size, toldV, isIntV, orArr, offB, effFr, effFr2, effFr3, mapIn, restSame, sameO, eqW, eqWL, pickR, te, einl, inls, efr]
    rw [decide_eq_false hz0] at hz
    simp (maxSteps := 1000000) (implicitDefEqProofs := false) only [natOb, natV, nn, hz, Bool.not_false, Option.map_some, ss, sd, zH, qG, zF, zG, St.get, qE, qF, qB, zC, norm, look, zE, qA, qI, St.alloc, St.drop, zA, part, zB, depth, qD, ↓reduceIte, Nat.reduceBEq, Nat.reduceAdd, Nat.reduceSub, Nat.reduceMul, Nat.reduceEqDiff, Nat.reduceLeDiff, Nat.reduceLT, qJ, qK, qL, qM, qN, qO, qP, qQ, qR, zI, qS, qC, qT, evSlice0, qV, qW, qX, qY, qZ, zJ, zK, zL, wit, Option.isSome_some, qH, xK, evPre, St.with, zD, Array.size, toldV, isIntV, orArr, offB, effFr, effFr2, effFr3, mapIn, restSame, sameO, eqW, eqWL, pickR, te, einl, inls, efr]
    generalize hr : loopAt _ _ _ _ _ _ = r; revert r
    refine loop_inv (ι := { x : Nat // x ≠ 0 ∧ (x % 2 = 1 ∨ b % 2 = 1) ∧ Nat.gcd x b = Nat.gcd a b ∧ x ≤ a }) (fun _ => []) (fun i => [(2, natOb (wd i.1))]) (fun i => i.1) ⟨a, hz0, hodd, rfl, Nat.le_refl _⟩ (by simp (maxSteps := 1000000) (implicitDefEqProofs := false) only [natOb, natV, ss, sd, zH, qG, zF, zG, St.get, qE, qF, qB, zC, norm, look, zE, qA, qI, St.alloc, St.drop, zA, part, zB, depth, qD, ↓reduceIte, Nat.reduceBEq, Nat.reduceAdd, Nat.reduceSub, Nat.reduceMul, Nat.reduceEqDiff, Nat.reduceLeDiff, Nat.reduceLT, qJ, qK, qL, qM, qN, qO, qP, qQ, qR, zI, qS, qC, qT, evSlice0, qV, qW, qX, qY, qZ, zJ, zK, zL, wit, Option.isSome_some, qH, xK, evPre, St.with, zD, Array.size, toldV, isIntV, orArr, offB, effFr, effFr2, effFr3, mapIn, restSame, sameO, eqW, eqWL, pickR, te, einl, inls, efr]) ?_
    rintro ⟨x, hx0, hxo, hxg, hxl⟩
    have hxb : x < big := by omega
    by_cases hxe : x % 2 = 0
    · have q3 : (((x % 2 : Nat) : Int) == 0) = true := by rw [hxe]; rfl
      have d1 := k42 x hxb
      simp only [nV, natV] at d1
      simp (maxSteps := 1000000) (implicitDefEqProofs := false) only [natOb, natV, nn, i20, in20, Int.le_refl, toNat0, low_get, and_one, q3, d1, ss, sd, zH, qG, zF, zG, St.get, qE, qF, qB, zC, norm, look, zE, qA, qI, St.alloc, St.drop, zA, part, zB, depth, qD, ↓reduceIte, Nat.reduceBEq, Nat.reduceAdd, Nat.reduceSub, Nat.reduceMul, Nat.reduceEqDiff, Nat.reduceLeDiff, Nat.reduceLT, qJ, qK, qL, qM, qN, qO, qP, qQ, qR, zI, qS, qC, qT, evSlice0, qV, qW, qX, qY, qZ, zJ, zK, zL, wit, Option.isSome_some, qH, xK, evPre, St.with, zD, Array.size, toldV, isIntV, orArr, offB, effFr, effFr2, effFr3, mapIn, restSame, sameO, eqW, eqWL, pickR, te, einl, inls, efr]
      refine ⟨⟨x / 2, by omega, .inr (by omega), by rw [gcd_half_l hxe (by omega), hxg], by omega⟩, rfl, by dsimp only; omega⟩
    have q3 : (((x % 2 : Nat) : Int) == 0) = false := by rw [show x % 2 = 1 by omega]; rfl
    simp (maxSteps := 1000000) (implicitDefEqProofs := false) only [natOb, natV, nn, i20, in20, Int.le_refl, toNat0, low_get, and_one, q3, ss, sd, zH, qG, zF, zG, St.get, qE, qF, qB, zC, norm, look, zE, qA, qI, St.alloc, St.drop, zA, part, zB, depth, qD, ↓reduceIte, Nat.reduceBEq, Nat.reduceAdd, Nat.reduceSub, Nat.reduceMul, Nat.reduceEqDiff, Nat.reduceLeDiff, Nat.reduceLT, qJ, qK, qL, qM, qN, qO, qP, qQ, qR, zI, qS, qC, qT, evSlice0, qV, qW, qX, qY, qZ, zJ, zK, zL, wit, Option.isSome_some, qH, xK, evPre, St.with, zD, Array.size, toldV, isIntV, orArr, offB, effFr, effFr2, effFr3, mapIn, restSame, sameO, eqW, eqWL, pickR, te, einl, inls, efr]
    generalize hr : loopAt _ _ _ _ _ _ = r; revert r
    refine loop_inv (ι := { y : Nat // y ≠ 0 ∧ Nat.gcd x y = Nat.gcd a b ∧ y ≤ b }) (fun _ => []) (fun i => [(3, natOb (wd i.1))]) (fun i => i.1) ⟨b, h2, hxg, Nat.le_refl _⟩ (by simp (maxSteps := 1000000) (implicitDefEqProofs := false) only [natOb, natV, ss, sd, zH, qG, zF, zG, St.get, qE, qF, qB, zC, norm, look, zE, qA, qI, St.alloc, St.drop, zA, part, zB, depth, qD, ↓reduceIte, Nat.reduceBEq, Nat.reduceAdd, Nat.reduceSub, Nat.reduceMul, Nat.reduceEqDiff, Nat.reduceLeDiff, Nat.reduceLT, qJ, qK, qL, qM, qN, qO, qP, qQ, qR, zI, qS, qC, qT, evSlice0, qV, qW, qX, qY, qZ, zJ, zK, zL, wit, Option.isSome_some, qH, xK, evPre, St.with, zD, Array.size, toldV, isIntV, orArr, offB, effFr, effFr2, effFr3, mapIn, restSame, sameO, eqW, eqWL, pickR, te, einl, inls, efr]) ?_
    rintro ⟨y, hy0, hyg, hyl⟩
    have hyb : y < big := by omega
    by_cases hye : y % 2 = 0
    · have q4 : (((y % 2 : Nat) : Int) == 0) = true := by rw [hye]; rfl
      have d1 := k42 y hyb
      simp only [nV, natV] at d1
      simp (maxSteps := 1000000) (implicitDefEqProofs := false) only [natOb, natV, nn, i20, in20, Int.le_refl, toNat0, low_get, and_one, q4, d1, ss, sd, zH, qG, zF, zG, St.get, qE, qF, qB, zC, norm, look, zE, qA, qI, St.alloc, St.drop, zA, part, zB, depth, qD, ↓reduceIte, Nat.reduceBEq, Nat.reduceAdd, Nat.reduceSub, Nat.reduceMul, Nat.reduceEqDiff, Nat.reduceLeDiff, Nat.reduceLT, qJ, qK, qL, qM, qN, qO, qP, qQ, qR, zI, qS, qC, qT, evSlice0, qV, qW, qX, qY, qZ, zJ, zK, zL, wit, Option.isSome_some, qH, xK, evPre, St.with, zD, Array.size, toldV, isIntV, orArr, offB, effFr, effFr2, effFr3, mapIn, restSame, sameO, eqW, eqWL, pickR, te, einl, inls, efr]
      refine ⟨⟨y / 2, by omega, by rw [gcd_half_r hye (by omega), hyg], by omega⟩, rfl, by dsimp only; omega⟩
    have q4 : (((y % 2 : Nat) : Int) == 0) = false := by rw [show y % 2 = 1 by omega]; rfl
    have d1 := k43 x y hxb hyb
    have d2 := cmp_low x y
    by_cases hlt : x < y
    · have d3 := k44 y x hyb hxb (by omega)
      rw [decide_eq_true hlt] at d2
      simp only [nV, natV] at d1 d3
      simp (maxSteps := 1000000) (implicitDefEqProofs := false) only [natOb, natV, nn, i20, in20, Int.le_refl, toNat0, low_get, and_one, q4, d1, d2, d3, ss, sd, zH, qG, zF, zG, St.get, qE, qF, qB, zC, norm, look, zE, qA, qI, St.alloc, St.drop, zA, part, zB, depth, qD, ↓reduceIte, Nat.reduceBEq, Nat.reduceAdd, Nat.reduceSub, Nat.reduceMul, Nat.reduceEqDiff, Nat.reduceLeDiff, Nat.reduceLT, qJ, qK, qL, qM, qN, qO, qP, qQ, qR, zI, qS, qC, qT, evSlice0, qV, qW, qX, qY, qZ, zJ, zK, zL, wit, Option.isSome_some, qH, xK, evPre, St.with, zD, Array.size, toldV, isIntV, orArr, offB, effFr, effFr2, effFr3, mapIn, restSame, sameO, eqW, eqWL, pickR, te, einl, inls, efr]
      refine ⟨⟨(y - x, x), hx0, .inr (by dsimp only; omega), ?_, by dsimp only; omega, hxb⟩, rfl, by dsimp only; omega⟩
      dsimp only
      rw [Nat.gcd_sub_self_left (by omega), Nat.gcd_comm, hyg, hgk]
    · have d3 := k44 x y hxb hyb (by omega)
      rw [decide_eq_false hlt] at d2
      simp only [nV, natV] at d1 d3
      simp (maxSteps := 1000000) (implicitDefEqProofs := false) only [natOb, natV, nn, i20, in20, Int.le_refl, toNat0, low_get, and_one, q4, d1, d2, d3, ss, sd, zH, qG, zF, zG, St.get, qE, qF, qB, zC, norm, look, zE, qA, qI, St.alloc, St.drop, zA, part, zB, depth, qD, ↓reduceIte, Nat.reduceBEq, Nat.reduceAdd, Nat.reduceSub, Nat.reduceMul, Nat.reduceEqDiff, Nat.reduceLeDiff, Nat.reduceLT, qJ, qK, qL, qM, qN, qO, qP, qQ, qR, zI, qS, qC, qT, evSlice0, qV, qW, qX, qY, qZ, zJ, zK, zL, wit, Option.isSome_some, qH, xK, evPre, St.with, zD, Array.size, toldV, isIntV, orArr, offB, effFr, effFr2, effFr3, mapIn, restSame, sameO, eqW, eqWL, pickR, te, einl, inls, efr]
      refine ⟨⟨(x - y, y), hy0, .inr (by dsimp only; omega), ?_, by dsimp only; omega, hyb⟩, rfl, by dsimp only; omega⟩
      dsimp only
      rw [Nat.gcd_sub_self_left (by omega), hyg, hgk]
end Go.AM.F

