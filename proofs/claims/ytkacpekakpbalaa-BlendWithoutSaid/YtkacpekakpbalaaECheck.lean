/-
Which amounts keep the conditions.
-/
import Derived.Test.YtkacpekakpbalaaECosts
set_option linter.unusedVariables false
set_option linter.unusedSimpArgs false
set_option maxRecDepth 20000

namespace Go.AM.E
open Go Go.AM Go.Proofs

def sumX (xs : List Int) : Nat → Int
  | 0 => 0
  | k + 1 => sumX xs k + xs.getD k 0
theorem sumX_step {xs : List Int} {k : Nat} {n : Int} (h : xs[k]? = some n) : sumX xs (k + 1) = sumX xs k + n := by
  show _ + _ = _
  rw [List.getD_eq_getElem?_getD, h]
  rfl
theorem sumX_in {xs : List Int} (hx : ∀ n ∈ xs, 0 ≤ n ∧ n ≤ 1073741824) : ∀ k : Nat, k ≤ xs.length → 0 ≤ sumX xs k ∧ sumX xs k ≤ (k : Int) * 1073741824
  | 0, _ => by simp [sumX]
  | k + 1, h => by
    have ih := sumX_in hx k (by omega)
    have hn : xs[k]? = some xs[k] := List.getElem?_eq_getElem (by omega)
    have b1 := hx xs[k] (List.getElem_mem _)
    rw [sumX_step hn]
    omega
def stAt (b : Blend) (i : Nat) : Int := (b.cs.getD i cem0).st
def Stocked (b : Blend) (a : Amts) : Prop := ∀ i, i < b.cs.length → ¬ stAt b i * a.den < a.x.getD i 0
def shortB (b : Blend) (a : Amts) : Bool := (List.range b.cs.length).any fun i => decide (stAt b i * a.den < a.x.getD i 0)
def inBounds (b : Blend) (xs : List Int) (den : Int) (k : Nat) : Bool := inB (propM b xs k) (b.lo.getD k 0 * (b.tot * den)) (b.hi.getD k 0 * (b.tot * den))
def keptB (b : Blend) (xs : List Int) (den : Int) : Bool := (List.range b.lo.length).all fun k => inBounds b xs den k
def brokenE (b : Blend) (a : Amts) : Int :=
  if shortB b a = true then 6 else if sumX a.x b.cs.length ≠ b.tot * a.den then 11 else if keptB b a.x a.den = true then 0 else 9
theorem short_iff {b : Blend} {a : Amts} : shortB b a = false ↔ Stocked b a := by
  unfold shortB Stocked
  rw [List.any_eq_false]
  simp
theorem kept_iff {b : Blend} {xs : List Int} {den : Int} : keptB b xs den = true ↔ ∀ k, k < b.lo.length → inBounds b xs den k = true := by
  unfold keptB
  rw [List.all_eq_true]
  simp
theorem brokenE_short {b : Blend} {a : Amts} {i : Nat} (hi : i < b.cs.length) (h : stAt b i * a.den < a.x.getD i 0) : brokenE b a = 6 := by
  unfold brokenE
  rw [if_pos]
  cases hs : shortB b a with
  | true => rfl
  | false => exact absurd h (short_iff.1 hs i hi)
theorem brokenE_fit {b : Blend} {a : Amts} (h : Stocked b a) (hs : ¬ sumX a.x b.cs.length = b.tot * a.den) : brokenE b a = 11 := by
  unfold brokenE
  rw [short_iff.2 h, if_neg (by decide), if_pos hs]
theorem brokenE_rule {b : Blend} {a : Amts} (h : Stocked b a) (hs : sumX a.x b.cs.length = b.tot * a.den) (hk : keptB b a.x a.den = false) : brokenE b a = 9 := by
  unfold brokenE
  rw [short_iff.2 h, if_neg (by decide), if_neg (by simpa using hs), hk, if_neg (by decide)]
theorem brokenE_ok {b : Blend} {a : Amts} (h : Stocked b a) (hs : sumX a.x b.cs.length = b.tot * a.den) (hk : keptB b a.x a.den = true) : brokenE b a = 0 := by
  unfold brokenE
  rw [short_iff.2 h, if_neg (by decide), if_neg (by simpa using hs), hk, if_pos rfl]
theorem stAt_some {b : Blend} {i : Nat} {c : Cem} (h : b.cs[i]? = some c) : stAt b i = c.st := by
  unfold stAt
  rw [List.getD_eq_getElem?_getD, h]
  rfl
theorem st_in {b : Blend} (hb : Valid b) : ∀ c ∈ b.cs, 0 ≤ c.st ∧ c.st ≤ 1000 := fun c hc => (cemOk_iff.1 (hb.2.2.2.2.2.2.2 c hc)).1

theorem okT64 : okCode (Try.f64.body.getD .skip) = true := by decide +kernel
set_option maxRecDepth 20000 in
set_option maxHeartbeats 8000000 in
theorem c64 (b : Blend) (a : Amts) (hb : Valid b) (ha : RightA b a) : (orcω E XS).call 64 [encBlend b, encAmts a] = some (.int .i64 (brokenE b a)) := by
  refine call_of rfl fn64 rfl ?_
  have hok := okT64
  simp only [Try.f64, Option.getD_some, okCode, Bool.and_eq_true, Bool.and_true, Bool.true_and] at hok
  obtain ⟨hk1, hk2⟩ := hok
  have eS := fun i => brokenE_short (b := b) (a := a) (i := i)
  have eF := brokenE_fit (b := b) (a := a)
  have eR := brokenE_rule (b := b) (a := a)
  have eO := brokenE_ok (b := b) (a := a)
  have k2 := fun k hk => c70 b a hb ha k hk
  have k3 := fun x lo hi => c47 x lo hi
  have hst := st_in hb
  have hl := hb.2.1
  have ht := hb.1
  have hlo := hb.2.2.2.2.1
  have hhi := hb.2.2.2.2.2.1
  have hln := hb.2.2.1
  have hlh := hb.2.2.2.1
  obtain ⟨d1, d2, d3⟩ := ha
  have hsx := sumX_in d3
  have hsa := fun i c => stAt_some (b := b) (i := i) (c := c)
  have hin := fun k => propM_in hb ⟨d1, d2, d3⟩ k
  have hbk : ∀ k, inBounds b a.x a.den k = inB (propM b a.x k) (b.lo.getD k 0 * (b.tot * a.den)) (b.hi.getD k 0 * (b.tot * a.den)) := fun _ => rfl
  have whole := mul_in (a := b.tot) (b := a.den) (A := 1000) (B := 1048576) (by omega) (by omega)
  have kiff := kept_iff (b := b) (xs := a.x) (den := a.den)
  unfold Stocked at eF eR eO
  generalize brokenE b a = res at *
  generalize keptB b a.x a.den = kp at *
  generalize stAt b = sa at *
  generalize inBounds b a.x a.den = ib at *
  generalize propM b a.x = pm at *
  obtain ⟨tot, cs, lo, hi⟩ := b
  obtain ⟨den, x⟩ := a
  clear hb
  simp only [encBlend, encAmts] at k2 ⊢
  dsimp only at *
  have w0 : IntKind.i64.wrap (tot * den) = tot * den := wrap_in (by omega)
  simp (maxSteps := 1000000) (implicitDefEqProofs := false) only [Try.ntmps64, Try.results64, efc64, fc64, List.length_map, ss, sd, zI, qG, zG, zH, St.get, qE, qF, qB, zD, norm, look, zF, qA, qI, St.alloc, St.drop, zA, part, zC, depth, qD, ↓reduceIte, Nat.reduceBEq, Nat.reduceAdd, Nat.reduceSub, Nat.reduceMul, Nat.reduceEqDiff, Nat.reduceLeDiff, Nat.reduceLT, qJ, qK, qL, qM, qN, qO, qP, qQ, qR, zJ, qS, qC, qT, evSlice0, qV, qW, qX, qY, qZ, zK, fixed, zL, wit, Option.isSome_some, qH, evSliceP, evPre, St.with, zE, Array.size, te, einl, inls, efr]
  generalize hr : loopAt _ _ _ _ _ _ = r; revert r
  refine loop_nat cs.length (fun i _ => [(5, .int .i64 (sumX x i)), (13, .int .i64 (i : Nat))]) (fun _ _ => []) (fun i (_ : Unit) => ∀ j, j < i → ¬ sa j * den < x.getD j 0) () (by omega) (by simp (maxSteps := 1000000) (implicitDefEqProofs := false) only [sumX, Int.natCast_zero, ss, sd, zI, qG, zG, zH, St.get, qE, qF, qB, zD, norm, look, zF, qA, qI, St.alloc, St.drop, zA, part, zC, depth, qD, ↓reduceIte, Nat.reduceBEq, Nat.reduceAdd, Nat.reduceSub, Nat.reduceMul, Nat.reduceEqDiff, Nat.reduceLeDiff, Nat.reduceLT, qJ, qK, qL, qM, qN, qO, qP, qQ, qR, zJ, qS, qC, qT, evSlice0, qV, qW, qX, qY, qZ, zK, fixed, zL, wit, Option.isSome_some, qH, evSliceP, evPre, St.with, zE, Array.size, te, einl, inls, efr]) (fun _ h => by omega) (fun _ hS => ?_) (fun i _ hS a1 a2 a3 => ?_)
  rotate_left
  · have hc : cs[i]? = some cs[i] := List.getElem?_eq_getElem a1
    have hn : x[i]? = some x[i] := List.getElem?_eq_getElem (by omega)
    have e1 := sumX_step hn
    have e2 := hsa i _ hc
    have e3 := getD_some hn
    have e4 := eS i a1
    have b0 := mul_in (hst cs[i] (List.getElem_mem _)) (show 0 ≤ den ∧ den ≤ 1048576 by omega)
    have b2 := hsx (i + 1) (by omega)
    have w1 : IntKind.i64.wrap (cs[i].st * den) = cs[i].st * den := wrap_in (by omega)
    have w2 : IntKind.i64.wrap (sumX x i + x[i]) = sumX x (i + 1) := by rw [← e1, wrap_in (by omega)]
    have a4 : (i : Int) < x.length := by omega
    rw [e2, e3] at e4
    by_cases hlt : cs[i].st * den < x[i]
    · have e5 := e4 hlt
      clear e4 b0 b2 e1
      generalize cs[i] = c at *
      generalize x[i] = n at *
      simp (maxSteps := 1000000) (implicitDefEqProofs := false) only [a1, a2, a3, a4, hc, hn, w1, hlt, e5, encCem, vI, evRegion_st hk1, Int.natCast_nonneg, Int.toNat_natCast, List.getElem?_map, List.length_map, Try.ntmps64, Try.results64, efc64, fc64, ss, sd, zI, qG, zG, zH, St.get, qE, qF, qB, zD, norm, look, zF, qA, qI, St.alloc, St.drop, zA, part, zC, depth, qD, ↓reduceIte, Nat.reduceBEq, Nat.reduceAdd, Nat.reduceSub, Nat.reduceMul, Nat.reduceEqDiff, Nat.reduceLeDiff, Nat.reduceLT, qJ, qK, qL, qM, qN, qO, qP, qQ, qR, zJ, qS, qC, qT, evSlice0, qV, qW, qX, qY, qZ, zK, fixed, zL, wit, Option.isSome_some, qH, evSliceP, evPre, St.with, zE, Array.size, te, einl, inls, efr]
    · have hS' : ∀ j, j < i + 1 → ¬ sa j * den < x.getD j 0 := by
        intro j hj
        by_cases hji : j = i
        · subst hji; rw [e2, e3]; exact hlt
        · exact hS j (by omega)
      clear e4 b0 b2 e1
      generalize cs[i] = c at *
      generalize x[i] = n at *
      simp (maxSteps := 1000000) (implicitDefEqProofs := false) only [a1, a2, a3, a4, hc, hn, w1, w2, hlt, encCem, vI, evRegion_st hk1, Int.natCast_nonneg, Int.toNat_natCast, List.getElem?_map, List.length_map, ss, sd, zI, qG, zG, zH, St.get, qE, qF, qB, zD, norm, look, zF, qA, qI, St.alloc, St.drop, zA, part, zC, depth, qD, ↓reduceIte, Nat.reduceBEq, Nat.reduceAdd, Nat.reduceSub, Nat.reduceMul, Nat.reduceEqDiff, Nat.reduceLeDiff, Nat.reduceLT, qJ, qK, qL, qM, qN, qO, qP, qQ, qR, zJ, qS, qC, qT, evSlice0, qV, qW, qX, qY, qZ, zK, fixed, zL, wit, Option.isSome_some, qH, evSliceP, evPre, St.with, zE, Array.size, te, einl, inls, efr]
      exact ⟨(), hS'⟩
  by_cases hF : sumX x cs.length = tot * den
  rotate_left
  · have e1 := eF hS hF
    have q1 : (sumX x cs.length != tot * den) = true := by simpa using hF
    simp (maxSteps := 1000000) (implicitDefEqProofs := false) only [Int.lt_irrefl, w0, q1, e1, Try.ntmps64, Try.results64, efc64, fc64, ss, sd, zI, qG, zG, zH, St.get, qE, qF, qB, zD, norm, look, zF, qA, qI, St.alloc, St.drop, zA, part, zC, depth, qD, ↓reduceIte, Nat.reduceBEq, Nat.reduceAdd, Nat.reduceSub, Nat.reduceMul, Nat.reduceEqDiff, Nat.reduceLeDiff, Nat.reduceLT, qJ, qK, qL, qM, qN, qO, qP, qQ, qR, zJ, qS, qC, qT, evSlice0, qV, qW, qX, qY, qZ, zK, fixed, zL, wit, Option.isSome_some, qH, evSliceP, evPre, St.with, zE, Array.size, te, einl, inls, efr]
  have q1 : (sumX x cs.length != tot * den) = false := by simpa using hF
  simp (maxSteps := 1000000) (implicitDefEqProofs := false) only [Int.lt_irrefl, w0, q1, List.length_map, ss, sd, zI, qG, zG, zH, St.get, qE, qF, qB, zD, norm, look, zF, qA, qI, St.alloc, St.drop, zA, part, zC, depth, qD, ↓reduceIte, Nat.reduceBEq, Nat.reduceAdd, Nat.reduceSub, Nat.reduceMul, Nat.reduceEqDiff, Nat.reduceLeDiff, Nat.reduceLT, qJ, qK, qL, qM, qN, qO, qP, qQ, qR, zJ, qS, qC, qT, evSlice0, qV, qW, qX, qY, qZ, zK, fixed, zL, wit, Option.isSome_some, qH, evSliceP, evPre, St.with, zE, Array.size, te, einl, inls, efr]
  generalize hr : loopAt _ _ _ _ _ _ = r; revert r
  refine loop_nat lo.length (fun i _ => [(48, .int .i64 (i : Nat))]) (fun _ _ => []) (fun i (_ : Unit) => ∀ j, j < i → ib j = true) () (by omega) (by simp (maxSteps := 1000000) (implicitDefEqProofs := false) only [Int.natCast_zero, ss, sd, zI, qG, zG, zH, St.get, qE, qF, qB, zD, norm, look, zF, qA, qI, St.alloc, St.drop, zA, part, zC, depth, qD, ↓reduceIte, Nat.reduceBEq, Nat.reduceAdd, Nat.reduceSub, Nat.reduceMul, Nat.reduceEqDiff, Nat.reduceLeDiff, Nat.reduceLT, qJ, qK, qL, qM, qN, qO, qP, qQ, qR, zJ, qS, qC, qT, evSlice0, qV, qW, qX, qY, qZ, zK, fixed, zL, wit, Option.isSome_some, qH, evSliceP, evPre, St.with, zE, Array.size, te, einl, inls, efr]) (fun _ h => by omega) (fun _ hK => ?_) (fun i _ hK a1 a2 a3 => ?_)
  · have e1 := eO hS hF (kiff.2 hK)
    simp (maxSteps := 1000000) (implicitDefEqProofs := false) only [Int.lt_irrefl, e1, Try.ntmps64, Try.results64, efc64, fc64, ss, sd, zI, qG, zG, zH, St.get, qE, qF, qB, zD, norm, look, zF, qA, qI, St.alloc, St.drop, zA, part, zC, depth, qD, ↓reduceIte, Nat.reduceBEq, Nat.reduceAdd, Nat.reduceSub, Nat.reduceMul, Nat.reduceEqDiff, Nat.reduceLeDiff, Nat.reduceLT, qJ, qK, qL, qM, qN, qO, qP, qQ, qR, zJ, qS, qC, qT, evSlice0, qV, qW, qX, qY, qZ, zK, fixed, zL, wit, Option.isSome_some, qH, evSliceP, evPre, St.with, zE, Array.size, te, einl, inls, efr]
  · have hn : lo[i]? = some lo[i] := List.getElem?_eq_getElem a1
    have hm : hi[i]? = some hi[i] := List.getElem?_eq_getElem (by omega)
    have a4 : (i : Int) < hi.length := by omega
    have k4 := k2 i a1
    have b0 := hbk i
    have b1 := mul_in (hlo lo[i] (List.getElem_mem _)) whole
    have b2 := mul_in (hhi hi[i] (List.getElem_mem _)) whole
    have w1 : IntKind.i64.wrap (lo[i] * (tot * den)) = lo[i] * (tot * den) := wrap_in (by omega)
    have w2 : IntKind.i64.wrap (hi[i] * (tot * den)) = hi[i] * (tot * den) := wrap_in (by omega)
    rw [getD_some hn, getD_some hm] at b0
    clear b1 b2
    cases hib : ib i with
    | false =>
      have e1 := eR hS hF (by
        cases hk : kp with
        | false => rfl
        | true => rw [kiff.1 hk i a1] at hib; cases hib)
      rw [hib] at b0
      generalize lo[i] = l at *
      generalize hi[i] = h at *
      simp (maxSteps := 1000000) (implicitDefEqProofs := false) only [a1, a2, a3, a4, hn, hm, k4, k3, ← b0, w1, w2, e1, vI, evRegion_st hk2, Int.natCast_nonneg, Int.toNat_natCast, List.getElem?_map, List.length_map, Try.ntmps64, Try.results64, efc64, fc64, ss, sd, zI, qG, zG, zH, St.get, qE, qF, qB, zD, norm, look, zF, qA, qI, St.alloc, St.drop, zA, part, zC, depth, qD, ↓reduceIte, Nat.reduceBEq, Nat.reduceAdd, Nat.reduceSub, Nat.reduceMul, Nat.reduceEqDiff, Nat.reduceLeDiff, Nat.reduceLT, qJ, qK, qL, qM, qN, qO, qP, qQ, qR, zJ, qS, qC, qT, evSlice0, qV, qW, qX, qY, qZ, zK, fixed, zL, wit, Option.isSome_some, qH, evSliceP, evPre, St.with, zE, Array.size, te, einl, inls, efr]
    | true =>
      have hK' : ∀ j, j < i + 1 → ib j = true := by
        intro j hj
        by_cases hji : j = i
        · subst hji; exact hib
        · exact hK j (by omega)
      rw [hib] at b0
      generalize lo[i] = l at *
      generalize hi[i] = h at *
      simp (maxSteps := 1000000) (implicitDefEqProofs := false) only [a1, a2, a3, a4, hn, hm, k4, k3, ← b0, w1, w2, vI, evRegion_st hk2, Int.natCast_nonneg, Int.toNat_natCast, List.getElem?_map, List.length_map, ss, sd, zI, qG, zG, zH, St.get, qE, qF, qB, zD, norm, look, zF, qA, qI, St.alloc, St.drop, zA, part, zC, depth, qD, ↓reduceIte, Nat.reduceBEq, Nat.reduceAdd, Nat.reduceSub, Nat.reduceMul, Nat.reduceEqDiff, Nat.reduceLeDiff, Nat.reduceLT, qJ, qK, qL, qM, qN, qO, qP, qQ, qR, zJ, qS, qC, qT, evSlice0, qV, qW, qX, qY, qZ, zK, fixed, zL, wit, Option.isSome_some, qH, evSliceP, evPre, St.with, zE, Array.size, te, einl, inls, efr]
      exact ⟨(), hK'⟩
end Go.AM.E

