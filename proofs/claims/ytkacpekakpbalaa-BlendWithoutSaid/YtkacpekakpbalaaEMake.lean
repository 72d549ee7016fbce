/-
Fractions in lowest terms (num.Make and the document's).
-/
import Derived.Test.YtkacpekakpbalaaEBlend
set_option linter.unusedVariables false
set_option linter.unusedSimpArgs false
set_option maxRecDepth 20000

namespace Go.AM.E
open Go Go.AM Go.Proofs

def makeR (num den : Int) : Int × Int × Int :=
  if 1099511627776 < num.natAbs / Nat.gcd num.natAbs den.natAbs ∨ 1048576 < den.natAbs / Nat.gcd num.natAbs den.natAbs then (0, 0, 4)
  else (if num < 0 then -((num.natAbs / Nat.gcd num.natAbs den.natAbs : Nat) : Int) else ((num.natAbs / Nat.gcd num.natAbs den.natAbs : Nat) : Int), ((den.natAbs / Nat.gcd num.natAbs den.natAbs : Nat) : Int), 0)
def encR (r : Int × Int × Int) : V := .tup [.agg [.int .i64 r.1, .int .i64 r.2.1], .int .i64 r.2.2]

theorem u64_low {n : Int} (h : -9223372036854775808 ≤ n ∧ n < 0) : IntKind.u64.wrap n = n + 18446744073709551616 := by
  simp [IntKind.wrap, IntKind.bits, IntKind.signed]; omega
theorem u64_back {n : Int} (h : -9223372036854775808 ≤ n ∧ n < 0) : IntKind.u64.wrap (0 - (n + 18446744073709551616)) = (n.natAbs : Int) := by
  simp [IntKind.wrap, IntKind.bits, IntKind.signed]; omega
theorem u64_div {a g : Nat} (h : a ≤ 9223372036854775807) (hg : 1 ≤ g) : IntKind.u64.wrap ((a : Int).tdiv (g : Int)) = ((a / g : Nat) : Int) := by
  rw [IntWalk.u64_quo _ _ (by omega)]
  simp

theorem c93 (n : Int) (h : -4611686018427387904 ≤ n ∧ n ≤ 4611686018427387904) : (orcω E XS).call 93 [.int .i64 n] = some (.int .u64 (n.natAbs : Int)) := by
  refine call_of rfl fn93 rfl ?_
  by_cases hn : n < 0
  · have w1 := u64_low (n := n) (by omega)
    have w2 := u64_back (n := n) (by omega)
    simp (maxSteps := 1000000) (implicitDefEqProofs := false) only [Try.ntmps93, Try.results93, efc93, hn, w1, w2, ss, sd, zI, qG, zG, zH, St.get, qE, qF, qB, zD, norm, look, zF, qA, qI, St.alloc, St.drop, zA, part, zC, depth, qD, ↓reduceIte, Nat.reduceBEq, Nat.reduceAdd, Nat.reduceSub, Nat.reduceMul, Nat.reduceEqDiff, Nat.reduceLeDiff, Nat.reduceLT, qJ, qK, qL, qM, qN, qO, qP, qQ, qR, zJ, qS, qC, qT, evSlice0, qV, qW, qX, qY, qZ, zK, fixed, zL, wit, Option.isSome_some, qH, evSliceP, evPre, St.with, zE, Array.size, te, einl, inls, efr]
  · have w1 : IntKind.u64.wrap n = (n.natAbs : Int) := by rw [IntWalk.u64_in _ (by omega)]; omega
    simp (maxSteps := 1000000) (implicitDefEqProofs := false) only [Try.ntmps93, Try.results93, efc93, hn, w1, ss, sd, zI, qG, zG, zH, St.get, qE, qF, qB, zD, norm, look, zF, qA, qI, St.alloc, St.drop, zA, part, zC, depth, qD, ↓reduceIte, Nat.reduceBEq, Nat.reduceAdd, Nat.reduceSub, Nat.reduceMul, Nat.reduceEqDiff, Nat.reduceLeDiff, Nat.reduceLT, qJ, qK, qL, qM, qN, qO, qP, qQ, qR, zJ, qS, qC, qT, evSlice0, qV, qW, qX, qY, qZ, zK, fixed, zL, wit, Option.isSome_some, qH, evSliceP, evPre, St.with, zE, Array.size, te, einl, inls, efr]
theorem k94 (a b : Nat) : (orcω E XS).call 94 [.int .u64 a, .int .u64 b] = some (.int .u64 ((Nat.gcd a b : Nat) : Int)) := by
  have := c94 a b (by omega) (by omega)
  simpa using this
theorem gcd_one {a b : Nat} (h : 1 ≤ b) : 1 ≤ Nat.gcd a b := Nat.gcd_pos_of_pos_right _ h

theorem okT65 : okCode (Try.f65.body.getD .skip) = true := by decide +kernel
set_option maxRecDepth 20000 in
set_option maxHeartbeats 4000000 in
theorem c65 (n d : Int) (hn : -4611686018427387904 ≤ n ∧ n ≤ 4611686018427387904) (hd : 1 ≤ d ∧ d ≤ 4611686018427387904) : (orcω E XS).call 65 [.int .i64 n, .int .i64 d] = some (encR (makeR n d)) := by
  refine call_of rfl fn65 rfl ?_
  have hok := okT65
  simp only [Try.f65, Option.getD_some, okCode, Bool.and_eq_true, Bool.and_true, Bool.true_and] at hok
  have k1 := c93 n hn
  have k2 := c93 d (by omega)
  have k3 := k94 n.natAbs d.natAbs
  have q0 : (d == 0) = false := by simp; omega
  have q1 : ¬ d < 0 := by omega
  have g1 := gcd_one (a := n.natAbs) (b := d.natAbs) (by omega)
  have w1 := u64_div (a := n.natAbs) (g := Nat.gcd n.natAbs d.natAbs) (by omega) g1
  have w2 := u64_div (a := d.natAbs) (g := Nat.gcd n.natAbs d.natAbs) (by omega) g1
  unfold makeR encR
  generalize Nat.gcd n.natAbs d.natAbs = g at *
  have z0 : ¬ (g : Int) = 0 := by omega
  generalize n.natAbs / g = a at *
  generalize d.natAbs / g = b at *
  by_cases h1 : 1099511627776 < a
  · have p1 : (1099511627776 : Int) < a := by omega
    simp (maxSteps := 1000000) (implicitDefEqProofs := false) only [Try.ntmps65, Try.results65, efc65, q0, k1, k2, k3, evRegion_st hok, ne_eq, z0, not_false_eq_true, w1, w2, p1, h1, true_or, if_true, ss, sd, zI, qG, zG, zH, St.get, qE, qF, qB, zD, norm, look, zF, qA, qI, St.alloc, St.drop, zA, part, zC, depth, qD, ↓reduceIte, Nat.reduceBEq, Nat.reduceAdd, Nat.reduceSub, Nat.reduceMul, Nat.reduceEqDiff, Nat.reduceLeDiff, Nat.reduceLT, qJ, qK, qL, qM, qN, qO, qP, qQ, qR, zJ, qS, qC, qT, evSlice0, qV, qW, qX, qY, qZ, zK, fixed, zL, wit, Option.isSome_some, qH, evSliceP, evPre, St.with, zE, Array.size, te, einl, inls, efr]
  · have p1 : ¬ (1099511627776 : Int) < a := by omega
    by_cases h2 : 1048576 < b
    · have p2 : (1048576 : Int) < b := by omega
      simp (maxSteps := 1000000) (implicitDefEqProofs := false) only [Try.ntmps65, Try.results65, efc65, q0, k1, k2, k3, evRegion_st hok, ne_eq, z0, not_false_eq_true, w1, w2, p1, p2, h1, h2, or_true, if_true, ss, sd, zI, qG, zG, zH, St.get, qE, qF, qB, zD, norm, look, zF, qA, qI, St.alloc, St.drop, zA, part, zC, depth, qD, ↓reduceIte, Nat.reduceBEq, Nat.reduceAdd, Nat.reduceSub, Nat.reduceMul, Nat.reduceEqDiff, Nat.reduceLeDiff, Nat.reduceLT, qJ, qK, qL, qM, qN, qO, qP, qQ, qR, zJ, qS, qC, qT, evSlice0, qV, qW, qX, qY, qZ, zK, fixed, zL, wit, Option.isSome_some, qH, evSliceP, evPre, St.with, zE, Array.size, te, einl, inls, efr]
    · have p2 : ¬ (1048576 : Int) < b := by omega
      have w3 : IntKind.i64.wrap (a : Int) = a := wrap_in (by omega)
      have w4 : IntKind.i64.wrap (b : Int) = b := wrap_in (by omega)
      have w5 : IntKind.i64.wrap (0 - (a : Int)) = -a := by rw [wrap_in (by omega)]; omega
      by_cases h3 : n < 0
      · simp (maxSteps := 1000000) (implicitDefEqProofs := false) only [Try.ntmps65, Try.results65, efc65, q0, q1, h3, k1, k2, k3, evRegion_st hok, ne_eq, z0, not_false_eq_true, w1, w2, w3, w4, w5, p1, p2, h1, h2, or_self, if_false, if_true, Bool.bne_false, ss, sd, zI, qG, zG, zH, St.get, qE, qF, qB, zD, norm, look, zF, qA, qI, St.alloc, St.drop, zA, part, zC, depth, qD, ↓reduceIte, Nat.reduceBEq, Nat.reduceAdd, Nat.reduceSub, Nat.reduceMul, Nat.reduceEqDiff, Nat.reduceLeDiff, Nat.reduceLT, qJ, qK, qL, qM, qN, qO, qP, qQ, qR, zJ, qS, qC, qT, evSlice0, qV, qW, qX, qY, qZ, zK, fixed, zL, wit, Option.isSome_some, qH, evSliceP, evPre, St.with, zE, Array.size, te, einl, inls, efr]
      · simp (maxSteps := 1000000) (implicitDefEqProofs := false) only [Try.ntmps65, Try.results65, efc65, q0, q1, h3, k1, k2, k3, evRegion_st hok, ne_eq, z0, not_false_eq_true, w1, w2, w3, w4, p1, p2, h1, h2, or_self, if_false, bne_self_eq_false, ss, sd, zI, qG, zG, zH, St.get, qE, qF, qB, zD, norm, look, zF, qA, qI, St.alloc, St.drop, zA, part, zC, depth, qD, ↓reduceIte, Nat.reduceBEq, Nat.reduceAdd, Nat.reduceSub, Nat.reduceMul, Nat.reduceEqDiff, Nat.reduceLeDiff, Nat.reduceLT, qJ, qK, qL, qM, qN, qO, qP, qQ, qR, zJ, qS, qC, qT, evSlice0, qV, qW, qX, qY, qZ, zK, fixed, zL, wit, Option.isSome_some, qH, evSliceP, evPre, St.with, zE, Array.size, te, einl, inls, efr]
end Go.AM.E

