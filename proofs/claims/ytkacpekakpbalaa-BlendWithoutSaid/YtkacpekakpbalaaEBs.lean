/-
Cofactors, coefficients, the members of sets (blend).
-/
import Derived.Test.YtkacpekakpbalaaEDet
import Derived.Test.YtkacpekakpbalaaEOptG
set_option linter.unusedVariables false
set_option linter.unusedSimpArgs false
set_option maxRecDepth 20000

namespace Go.AM.E
open Go Go.AM Go.Proofs

theorem tmod_two (s t : Nat) : ((s : Int) + (t : Int)).tmod 2 = (((s + t) % 2 : Nat) : Int) := by
  rw [Int.tmod_eq_emod_of_nonneg (by omega)]; omega
set_option maxRecDepth 20000 in
set_option maxHeartbeats 4000000 in
theorem c89 (n : Nat) (M : List (List Int)) (s t : Nat) (hn : n + 1 ≤ 4) (hM : M.length = n + 1) (hl : ∀ l ∈ M, l.length = n + 1) (hx : ∀ l ∈ M, ∀ x ∈ l, -20 ≤ x ∧ x ≤ 20) (hs : s < n + 1) (ht : t < n + 1) :
    (orcω E XS).call 89 [encM false M, .int .i64 (s : Nat), .int .i64 (t : Nat)] = some (.int .i64 (cofM (n + 1) M s t)) := by
  refine call_of rfl fn89 rfl ?_
  have k1 := c101 M t s (by omega) (fun l h => by rw [hl l h]; omega)
  have k2 := c88 n (minorL M t s) (by omega) (by unfold minorL; rw [List.length_map, List.length_eraseIdx, if_pos (by omega)]; omega) (minor_len hl hs) (minor_in hx)
  have hB := det_in n (minorL M t s) (fun l h => by rw [minor_len hl hs l h]; omega) (minor_in hx)
  have hBn : detBound n ≤ 48000 := by
    have h : ∀ n, n ≤ 3 → detBound n ≤ 48000 := by decide
    exact h n (by omega)
  have hc : cofM (n + 1) M s t = sgn (s + t) * detF n (minorL M t s) := rfl
  rw [hc]
  have tm := tmod_two s t
  unfold sgn
  unfold encM at k1 k2 ⊢
  generalize detF n (minorL M t s) = d at *
  generalize minorL M t s = mn at *
  have w0 : IntKind.i64.wrap ((s : Int) + (t : Int)) = (s : Int) + t := wrap_in (by omega)
  have w1 : IntKind.i64.wrap (0 - d) = -d := by rw [wrap_in (by omega)]; omega
  have n2 : ¬ (2 : Int) = 0 := by decide
  by_cases h : (s + t) % 2 = 0
  · rw [if_pos h, Int.one_mul]
    rw [h] at tm
    replace tm : ((s : Int) + (t : Int)).tmod 2 = 0 := tm
    have q1 : ((0 : Int) == 1) = false := by decide
    simp (maxSteps := 1000000) (implicitDefEqProofs := false) only [Try.ntmps89, Try.results89, efc89, k1, k2, w0, tm, q1, n2, ne_eq, not_false_eq_true, ss, sd, zI, qG, zG, zH, St.get, qE, qF, qB, zD, norm, look, zF, qA, qI, St.alloc, St.drop, zA, part, zC, depth, qD, ↓reduceIte, Nat.reduceBEq, Nat.reduceAdd, Nat.reduceSub, Nat.reduceMul, Nat.reduceEqDiff, Nat.reduceLeDiff, Nat.reduceLT, qJ, qK, qL, qM, qN, qO, qP, qQ, qR, zJ, qS, qC, qT, evSlice0, qV, qW, qX, qY, qZ, zK, fixed, zL, wit, Option.isSome_some, qH, evSliceP, evPre, St.with, zE, Array.size, te, einl, inls, efr]
  · rw [if_neg h]
    have h1 : (s + t) % 2 = 1 := by omega
    rw [h1] at tm
    replace tm : ((s : Int) + (t : Int)).tmod 2 = 1 := tm
    have q1 : ((1 : Int) == 1) = true := by decide
    have e : (-1 : Int) * d = -d := by omega
    rw [e]
    simp (maxSteps := 1000000) (implicitDefEqProofs := false) only [Try.ntmps89, Try.results89, efc89, k1, k2, w0, w1, tm, q1, n2, ne_eq, not_false_eq_true, ss, sd, zI, qG, zG, zH, St.get, qE, qF, qB, zD, norm, look, zF, qA, qI, St.alloc, St.drop, zA, part, zC, depth, qD, ↓reduceIte, Nat.reduceBEq, Nat.reduceAdd, Nat.reduceSub, Nat.reduceMul, Nat.reduceEqDiff, Nat.reduceLeDiff, Nat.reduceLT, qJ, qK, qL, qM, qN, qO, qP, qQ, qR, zJ, qS, qC, qT, evSlice0, qV, qW, qX, qY, qZ, zK, fixed, zL, wit, Option.isSome_some, qH, evSliceP, evPre, St.with, zE, Array.size, te, einl, inls, efr]

set_option maxRecDepth 20000 in
set_option maxHeartbeats 4000000 in
theorem c87 (b : Blend) (r c : Nat) (hc : c < b.cs.length) (hr : r = 0 ∨ r - 1 < (psAt b c).length) (hr9 : r ≤ 1000) : (orcω E XS).call 87 [encBlend b, .int .i64 (r : Nat), .int .i64 (c : Nat)] = some (.int .i64 (coefB b r c)) := by
  refine call_of rfl fn87 rfl ?_
  have ga : b.cs[c]? = some b.cs[c] := List.getElem?_eq_getElem hc
  have ep := psAt_some ga
  unfold coefB
  rw [ep] at hr ⊢
  obtain ⟨tot, cs, lo, hi⟩ := b
  unfold encBlend
  dsimp only at *
  generalize cs[c] = m at *
  have hc : c < cs.length := hc
  have a1 : (c : Int) < cs.length := by omega
  by_cases h : r = 0
  · subst h
    simp (maxSteps := 1000000) (implicitDefEqProofs := false) only [Try.ntmps87, Try.results87, efc87, beq_self_eq_true, Int.natCast_zero, if_true, ss, sd, zI, qG, zG, zH, St.get, qE, qF, qB, zD, norm, look, zF, qA, qI, St.alloc, St.drop, zA, part, zC, depth, qD, ↓reduceIte, Nat.reduceBEq, Nat.reduceAdd, Nat.reduceSub, Nat.reduceMul, Nat.reduceEqDiff, Nat.reduceLeDiff, Nat.reduceLT, qJ, qK, qL, qM, qN, qO, qP, qQ, qR, zJ, qS, qC, qT, evSlice0, qV, qW, qX, qY, qZ, zK, fixed, zL, wit, Option.isSome_some, qH, evSliceP, evPre, St.with, zE, Array.size, te, einl, inls, efr]
  · rw [if_neg h]
    have q1 : (((r : Nat) : Int) == 0) = false := by simp; omega
    have hr : r - 1 < m.ps.length := by omega
    have gp : m.ps[r - 1]? = some (m.ps.getD (r - 1) 0) := by rw [List.getD_eq_getElem?_getD, List.getElem?_eq_getElem hr]; rfl
    have w1 : IntKind.i64.wrap ((r : Int) - 1) = ((r - 1 : Nat) : Int) := by rw [wrap_in (by omega)]; omega
    have a2 : ((r - 1 : Nat) : Int) < m.ps.length := by omega
    generalize m.ps.getD (r - 1) 0 = p at *
    generalize r - 1 = j at *
    simp (maxSteps := 1000000) (implicitDefEqProofs := false) only [Try.ntmps87, Try.results87, efc87, q1, w1, a1, a2, hc, hr, ga, gp, encCem, vI, Int.natCast_nonneg, Int.toNat_natCast, List.getElem?_map, List.length_map, ss, sd, zI, qG, zG, zH, St.get, qE, qF, qB, zD, norm, look, zF, qA, qI, St.alloc, St.drop, zA, part, zC, depth, qD, ↓reduceIte, Nat.reduceBEq, Nat.reduceAdd, Nat.reduceSub, Nat.reduceMul, Nat.reduceEqDiff, Nat.reduceLeDiff, Nat.reduceLT, qJ, qK, qL, qM, qN, qO, qP, qQ, qR, zJ, qS, qC, qT, evSlice0, qV, qW, qX, qY, qZ, zK, fixed, zL, wit, Option.isSome_some, qH, evSliceP, evPre, St.with, zE, Array.size, te, einl, inls, efr]

def isV (v : V) (r : Option V) : Bool := match r with
  | some a => eqV a v
  | none => false
theorem isV_eq {v : V} {r : Option V} (h : isV v r = true) : r = some v := by
  unfold isV at h
  split at h
  · rw [eqV_eq h]
  · cases h
def memI (s : Nat) : List Int := (memM s).map fun (i : Nat) => (i : Int)
set_option maxRecDepth 100000 in
theorem mem_runs : ((List.range 32).all fun n => isV (.sl true ((memI n).map vI)) ((orc E XS 20).call 86 [.int .i64 (n : Nat)])) = true := by decide +kernel
theorem c86 (n : Nat) (hn : n < 32) : (orcω E XS).call 86 [.int .i64 (n : Nat)] = some (.sl true ((memI n).map vI)) :=
  (orcω_le 20).call _ _ _ (isV_eq (List.all_eq_true.1 mem_runs n (List.mem_range.2 hn)))
set_option maxRecDepth 100000 in
theorem mask_runs : ((List.range 32).all fun n => isV (.int .i64 (n : Nat)) ((orc E XS 20).call 91 [.sl false ((memI n).map vI)])) = true := by decide +kernel
theorem c91 (n : Nat) (hn : n < 32) : (orcω E XS).call 91 [.sl false ((memI n).map vI)] = some (.int .i64 (n : Nat)) :=
  (orcω_le 20).call _ _ _ (isV_eq (List.all_eq_true.1 mask_runs n (List.mem_range.2 hn)))
end Go.AM.E

