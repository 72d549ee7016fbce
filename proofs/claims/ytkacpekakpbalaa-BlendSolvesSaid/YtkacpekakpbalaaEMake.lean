/-
Fractions in lowest terms (num.Make and the document's).
-/
import Derived.Test.YtkacpekakpbalaaEBlend
set_option linter.unusedVariables false
set_option linter.unusedSimpArgs false
set_option maxRecDepth 20000

namespace Go.AM.E
open Go Go.AM Go.Proofs

def makeR (num den : Int) : Int × Int × Int :=
  if 1099511627776 < num.natAbs / Nat.gcd num.natAbs den.natAbs ∨ 1048576 < den.natAbs / Nat.gcd num.natAbs den.natAbs then (0, 0, 4)
  else (if num < 0 then -((num.natAbs / Nat.gcd num.natAbs den.natAbs : Nat) : Int) else ((num.natAbs / Nat.gcd num.natAbs den.natAbs : Nat) : Int), ((den.natAbs / Nat.gcd num.natAbs den.natAbs : Nat) : Int), 0)
def encR (r : Int × Int × Int) : V := .tup [.agg [.int .i64 r.1, .int .i64 r.2.1], .int .i64 r.2.2]

theorem u64_low {n : Int} (h : -9223372036854775808 ≤ n ∧ n < 0) : IntKind.u64.wrap n = n + 18446744073709551616 := by
  simp [IntKind.wrap, IntKind.bits, IntKind.signed]; omega
theorem u64_back {n : Int} (h : -9223372036854775808 ≤ n ∧ n < 0) : IntKind.u64.wrap (0 - (n + 18446744073709551616)) = (n.natAbs : Int) := by
  simp [IntKind.wrap, IntKind.bits, IntKind.signed]; omega
theorem u64_div {a g : Nat} (h : a ≤ 9223372036854775807) (hg : 1 ≤ g) : IntKind.u64.wrap ((a : Int).tdiv (g : Int)) = ((a / g : Nat) : Int) := by
  rw [IntWalk.u64_quo _ _ (by omega)]
  simp

theorem c93 (n : Int) (h : -4611686018427387904 ≤ n ∧ n ≤ 4611686018427387904) : (orcω E XS).call 93 [.int .i64 n] = some (.int .u64 (n.natAbs : Int)) := by
  refine call_of rfl fn93 rfl ?_
  by_cases hn : n < 0
  · have w1 := u64_low (n := n) (by omega)
    have w2 := u64_back (n := n) (by omega)
    simp (maxSteps := 1000000) (implicitDefEqProofs := false) only [Try.ntmps93, Try.results93, efc93, hn, w1, w2, ss, sd, zI, qG, zG, zH, St.get, qE, qF, qB, zD, norm, look, zF, qA, qI, St.alloc, St.drop, zA, part, zC, depth, qD, ↓reduceIte, Nat.reduceBEq, Nat.reduceAdd, Nat.reduceSub, Nat.reduceMul, Nat.reduceEqDiff, Nat.reduceLeDiff, Nat.reduceLT, qJ, qK, qL, qM, qN, qO, qP, qQ, qR, zJ, qS, qC, qT, qU, qV, qW, qX, qY, qZ, zK, fixed, zL, wit, Option.isSome_some, qH, St.with, zE, Array.size, te, einl, inls, efr]
  · have w1 : IntKind.u64.wrap n = (n.natAbs : Int) := by rw [IntWalk.u64_in _ (by omega)]; omega
    simp (maxSteps := 1000000) (implicitDefEqProofs := false) only [Try.ntmps93, Try.results93, efc93, hn, w1, ss, sd, zI, qG, zG, zH, St.get, qE, qF, qB, zD, norm, look, zF, qA, qI, St.alloc, St.drop, zA, part, zC, depth, qD, ↓reduceIte, Nat.reduceBEq, Nat.reduceAdd, Nat.reduceSub, Nat.reduceMul, Nat.reduceEqDiff, Nat.reduceLeDiff, Nat.reduceLT, qJ, qK, qL, qM, qN, qO, qP, qQ, qR, zJ, qS, qC, qT, qU, qV, qW, qX, qY, qZ, zK, fixed, zL, wit, Option.isSome_some, qH, St.with, zE, Array.size, te, einl, inls, efr]
theorem c85 (n : Int) (h : -4611686018427387904 ≤ n ∧ n ≤ 4611686018427387904) : (orcω E XS).call 85 [.int .i64 n] = some (.int .u64 (n.natAbs : Int)) := by
  refine call_of rfl fn85 rfl ?_
  by_cases hn : n < 0
  · have w1 : IntKind.i64.wrap (n + 1) = n + 1 := wrap_in (by omega)
    have w2 : IntKind.i64.wrap (0 - (n + 1)) = -(n + 1) := by rw [wrap_in (by omega)]; omega
    have w3 : IntKind.u64.wrap (-(n + 1)) = -(n + 1) := IntWalk.u64_in _ (by omega)
    have w4 : IntKind.u64.wrap (-(n + 1) + 1) = (n.natAbs : Int) := by rw [IntWalk.u64_in _ (by omega)]; omega
    simp (maxSteps := 1000000) (implicitDefEqProofs := false) only [Try.ntmps85, Try.results85, efc85, hn, w1, w2, w3, w4, ss, sd, zI, qG, zG, zH, St.get, qE, qF, qB, zD, norm, look, zF, qA, qI, St.alloc, St.drop, zA, part, zC, depth, qD, ↓reduceIte, Nat.reduceBEq, Nat.reduceAdd, Nat.reduceSub, Nat.reduceMul, Nat.reduceEqDiff, Nat.reduceLeDiff, Nat.reduceLT, qJ, qK, qL, qM, qN, qO, qP, qQ, qR, zJ, qS, qC, qT, qU, qV, qW, qX, qY, qZ, zK, fixed, zL, wit, Option.isSome_some, qH, St.with, zE, Array.size, te, einl, inls, efr]
  · have w1 : IntKind.u64.wrap n = (n.natAbs : Int) := by rw [IntWalk.u64_in _ (by omega)]; omega
    simp (maxSteps := 1000000) (implicitDefEqProofs := false) only [Try.ntmps85, Try.results85, efc85, hn, w1, ss, sd, zI, qG, zG, zH, St.get, qE, qF, qB, zD, norm, look, zF, qA, qI, St.alloc, St.drop, zA, part, zC, depth, qD, ↓reduceIte, Nat.reduceBEq, Nat.reduceAdd, Nat.reduceSub, Nat.reduceMul, Nat.reduceEqDiff, Nat.reduceLeDiff, Nat.reduceLT, qJ, qK, qL, qM, qN, qO, qP, qQ, qR, zJ, qS, qC, qT, qU, qV, qW, qX, qY, qZ, zK, fixed, zL, wit, Option.isSome_some, qH, St.with, zE, Array.size, te, einl, inls, efr]
theorem k94 (a b : Nat) : (orcω E XS).call 94 [.int .u64 a, .int .u64 b] = some (.int .u64 ((Nat.gcd a b : Nat) : Int)) := by
  have := c94 a b (by omega) (by omega)
  simpa using this
theorem okT100 : okCode (Try.f100.body.getD .skip) = true := by decide +kernel
theorem c100 (a b : Nat) : (orcω E XS).call 100 [.int .u64 a, .int .u64 b] = some (.int .u64 ((Nat.gcd a b : Nat) : Int)) := by
  refine call_of rfl fn100 rfl ?_
  have hok := okT100
  simp only [Try.f100, Option.getD_some, okCode, Bool.and_eq_true, Bool.and_true, Bool.true_and] at hok
  simp (maxSteps := 1000000) (implicitDefEqProofs := false) only [Try.ntmps100, Try.results100, efc100, fc100, ss, sd, zI, qG, zG, zH, St.get, qE, qF, qB, zD, norm, look, zF, qA, qI, St.alloc, St.drop, zA, part, zC, depth, qD, ↓reduceIte, Nat.reduceBEq, Nat.reduceAdd, Nat.reduceSub, Nat.reduceMul, Nat.reduceEqDiff, Nat.reduceLeDiff, Nat.reduceLT, qJ, qK, qL, qM, qN, qO, qP, qQ, qR, zJ, qS, qC, qT, qU, qV, qW, qX, qY, qZ, zK, fixed, zL, wit, Option.isSome_some, qH, St.with, zE, Array.size, te, einl, inls, efr]
  generalize hr : loopAt _ _ _ _ _ _ = r; revert r
  refine loop_inv (ι := { p : Nat × Nat // Nat.gcd p.1 p.2 = Nat.gcd a b }) (fun i => [(0, .int .u64 (i.1.1 : Int)), (1, .int .u64 (i.1.2 : Int))]) (fun _ => []) (fun i => i.1.2) ⟨(a, b), rfl⟩ (by simp (maxSteps := 1000000) (implicitDefEqProofs := false) only [ss, sd, zI, qG, zG, zH, St.get, qE, qF, qB, zD, norm, look, zF, qA, qI, St.alloc, St.drop, zA, part, zC, depth, qD, ↓reduceIte, Nat.reduceBEq, Nat.reduceAdd, Nat.reduceSub, Nat.reduceMul, Nat.reduceEqDiff, Nat.reduceLeDiff, Nat.reduceLT, qJ, qK, qL, qM, qN, qO, qP, qQ, qR, zJ, qS, qC, qT, qU, qV, qW, qX, qY, qZ, zK, fixed, zL, wit, Option.isSome_some, qH, St.with, zE, Array.size, te, einl, inls, efr]) ?_
  rintro ⟨⟨x, y⟩, hg⟩
  dsimp only at hg ⊢
  by_cases hy : y = 0
  · subst hy
    have q1 : (((0 : Nat) : Int) != 0) = false := by decide
    have e1 : x = Nat.gcd a b := by rw [← hg]; simp
    simp (maxSteps := 1000000) (implicitDefEqProofs := false) only [bne_self_eq_false, ← e1, Int.natCast_zero, Try.ntmps100, Try.results100, efc100, fc100, ss, sd, zI, qG, zG, zH, St.get, qE, qF, qB, zD, norm, look, zF, qA, qI, St.alloc, St.drop, zA, part, zC, depth, qD, ↓reduceIte, Nat.reduceBEq, Nat.reduceAdd, Nat.reduceSub, Nat.reduceMul, Nat.reduceEqDiff, Nat.reduceLeDiff, Nat.reduceLT, qJ, qK, qL, qM, qN, qO, qP, qQ, qR, zJ, qS, qC, qT, qU, qV, qW, qX, qY, qZ, zK, fixed, zL, wit, Option.isSome_some, qH, St.with, zE, Array.size, te, einl, inls, efr]
  · have q1 : (((y : Nat) : Int) != 0) = true := by rw [bne_iff_ne]; omega
    have q2 : ¬ (y : Int) = 0 := by omega
    have e1 : (x : Int).tmod (y : Int) = ((x % y : Nat) : Int) := rfl
    simp (maxSteps := 1000000) (implicitDefEqProofs := false) only [q1, evRegion_st hok, ne_eq, q2, not_false_eq_true, e1, ss, sd, zI, qG, zG, zH, St.get, qE, qF, qB, zD, norm, look, zF, qA, qI, St.alloc, St.drop, zA, part, zC, depth, qD, ↓reduceIte, Nat.reduceBEq, Nat.reduceAdd, Nat.reduceSub, Nat.reduceMul, Nat.reduceEqDiff, Nat.reduceLeDiff, Nat.reduceLT, qJ, qK, qL, qM, qN, qO, qP, qQ, qR, zJ, qS, qC, qT, qU, qV, qW, qX, qY, qZ, zK, fixed, zL, wit, Option.isSome_some, qH, St.with, zE, Array.size, te, einl, inls, efr]
    exact ⟨⟨(y, x % y), by dsimp only; rw [← hg, Nat.gcd_comm x y, Nat.gcd_rec y x, Nat.gcd_comm]⟩, rfl, by dsimp only; exact Nat.mod_lt _ (by omega)⟩

theorem gcd_one {a b : Nat} (h : 1 ≤ b) : 1 ≤ Nat.gcd a b := Nat.gcd_pos_of_pos_right _ h

theorem okT84 : okCode (Try.f84.body.getD .skip) = true := by decide +kernel
set_option maxRecDepth 20000 in
set_option maxHeartbeats 4000000 in
theorem c84 (s : Bool) (n d : Nat) (hn : n ≤ 4611686018427387904) (hd : 1 ≤ d ∧ d ≤ 4611686018427387904) : (orcω E XS).call 84 [.bool s, .int .u64 n, .int .u64 d] =
    some (if 1099511627776 < n / Nat.gcd n d ∨ 1048576 < d / Nat.gcd n d then .tup [.agg [.int .i64 0, .int .i64 0], .bool false]
      else .tup [.agg [.int .i64 (if s = true then -((n / Nat.gcd n d : Nat) : Int) else ((n / Nat.gcd n d : Nat) : Int)), .int .i64 ((d / Nat.gcd n d : Nat) : Int)], .bool true]) := by
  refine call_of rfl fn84 rfl ?_
  have hok := okT84
  simp only [Try.f84, Option.getD_some, okCode, Bool.and_eq_true, Bool.and_true, Bool.true_and] at hok
  have k1 := c100 n d
  have g1 := gcd_one (a := n) hd.1
  have w1 := u64_div (a := n) (g := Nat.gcd n d) (by omega) g1
  have w2 := u64_div (a := d) (g := Nat.gcd n d) (by omega) g1
  generalize Nat.gcd n d = g at *
  have q0 : ¬ (g : Int) = 0 := by omega
  generalize n / g = a at *
  generalize d / g = b at *
  by_cases h1 : 1099511627776 < a
  · have p1 : (1099511627776 : Int) < a := by omega
    simp (maxSteps := 1000000) (implicitDefEqProofs := false) only [Try.ntmps84, Try.results84, efc84, k1, evRegion_st hok, ne_eq, q0, not_false_eq_true, w1, w2, p1, h1, true_or, if_true, ss, sd, zI, qG, zG, zH, St.get, qE, qF, qB, zD, norm, look, zF, qA, qI, St.alloc, St.drop, zA, part, zC, depth, qD, ↓reduceIte, Nat.reduceBEq, Nat.reduceAdd, Nat.reduceSub, Nat.reduceMul, Nat.reduceEqDiff, Nat.reduceLeDiff, Nat.reduceLT, qJ, qK, qL, qM, qN, qO, qP, qQ, qR, zJ, qS, qC, qT, qU, qV, qW, qX, qY, qZ, zK, fixed, zL, wit, Option.isSome_some, qH, St.with, zE, Array.size, te, einl, inls, efr]
  · have p1 : ¬ (1099511627776 : Int) < a := by omega
    by_cases h2 : 1048576 < b
    · have p2 : (1048576 : Int) < b := by omega
      simp (maxSteps := 1000000) (implicitDefEqProofs := false) only [Try.ntmps84, Try.results84, efc84, k1, evRegion_st hok, ne_eq, q0, not_false_eq_true, w1, w2, p1, p2, h1, h2, or_true, if_true, ss, sd, zI, qG, zG, zH, St.get, qE, qF, qB, zD, norm, look, zF, qA, qI, St.alloc, St.drop, zA, part, zC, depth, qD, ↓reduceIte, Nat.reduceBEq, Nat.reduceAdd, Nat.reduceSub, Nat.reduceMul, Nat.reduceEqDiff, Nat.reduceLeDiff, Nat.reduceLT, qJ, qK, qL, qM, qN, qO, qP, qQ, qR, zJ, qS, qC, qT, qU, qV, qW, qX, qY, qZ, zK, fixed, zL, wit, Option.isSome_some, qH, St.with, zE, Array.size, te, einl, inls, efr]
    · have p2 : ¬ (1048576 : Int) < b := by omega
      have w3 : IntKind.i64.wrap (a : Int) = a := wrap_in (by omega)
      have w4 : IntKind.i64.wrap (b : Int) = b := wrap_in (by omega)
      have w5 : IntKind.i64.wrap (0 - (a : Int)) = -a := by rw [wrap_in (by omega)]; omega
      cases s with
      | false => simp (maxSteps := 1000000) (implicitDefEqProofs := false) only [Try.ntmps84, Try.results84, efc84, k1, evRegion_st hok, ne_eq, q0, not_false_eq_true, w1, w2, w3, w4, p1, p2, h1, h2, or_self, if_false, Bool.false_eq_true, ss, sd, zI, qG, zG, zH, St.get, qE, qF, qB, zD, norm, look, zF, qA, qI, St.alloc, St.drop, zA, part, zC, depth, qD, ↓reduceIte, Nat.reduceBEq, Nat.reduceAdd, Nat.reduceSub, Nat.reduceMul, Nat.reduceEqDiff, Nat.reduceLeDiff, Nat.reduceLT, qJ, qK, qL, qM, qN, qO, qP, qQ, qR, zJ, qS, qC, qT, qU, qV, qW, qX, qY, qZ, zK, fixed, zL, wit, Option.isSome_some, qH, St.with, zE, Array.size, te, einl, inls, efr]
      | true => simp (maxSteps := 1000000) (implicitDefEqProofs := false) only [Try.ntmps84, Try.results84, efc84, k1, evRegion_st hok, ne_eq, q0, not_false_eq_true, w1, w2, w3, w4, w5, p1, p2, h1, h2, or_self, if_false, if_true, ss, sd, zI, qG, zG, zH, St.get, qE, qF, qB, zD, norm, look, zF, qA, qI, St.alloc, St.drop, zA, part, zC, depth, qD, ↓reduceIte, Nat.reduceBEq, Nat.reduceAdd, Nat.reduceSub, Nat.reduceMul, Nat.reduceEqDiff, Nat.reduceLeDiff, Nat.reduceLT, qJ, qK, qL, qM, qN, qO, qP, qQ, qR, zJ, qS, qC, qT, qU, qV, qW, qX, qY, qZ, zK, fixed, zL, wit, Option.isSome_some, qH, St.with, zE, Array.size, te, einl, inls, efr]

set_option maxRecDepth 20000 in
set_option maxHeartbeats 4000000 in
theorem c54 (n d : Int) (hn : -4611686018427387904 ≤ n ∧ n ≤ 4611686018427387904) (hd : 1 ≤ d ∧ d ≤ 4611686018427387904) : (orcω E XS).call 54 [.int .i64 n, .int .i64 d] = some (encR (makeR n d)) := by
  refine call_of rfl fn54 rfl ?_
  have k1 := c85 n hn
  have k2 := c85 d (by omega)
  have k3 := fun s => c84 s n.natAbs d.natAbs (by omega) (by omega)
  have q0 : (d == 0) = false := by simp; omega
  have q1 : ¬ d < 0 := by omega
  unfold makeR encR
  generalize n.natAbs / Nat.gcd n.natAbs d.natAbs = a at *
  generalize d.natAbs / Nat.gcd n.natAbs d.natAbs = b at *
  by_cases h1 : 1099511627776 < a ∨ 1048576 < b
  · simp only [if_pos h1] at k3 ⊢
    by_cases h2 : n < 0
    · have q2 := decide_eq_true h2
      have k4 := k3 true
      simp (maxSteps := 1000000) (implicitDefEqProofs := false) only [Try.ntmps54, Try.results54, efc54, q0, q1, h2, k1, k2, k4, bne_self_eq_false, Bool.bne_false, Bool.true_bne, Bool.not_false, ss, sd, zI, qG, zG, zH, St.get, qE, qF, qB, zD, norm, look, zF, qA, qI, St.alloc, St.drop, zA, part, zC, depth, qD, ↓reduceIte, Nat.reduceBEq, Nat.reduceAdd, Nat.reduceSub, Nat.reduceMul, Nat.reduceEqDiff, Nat.reduceLeDiff, Nat.reduceLT, qJ, qK, qL, qM, qN, qO, qP, qQ, qR, zJ, qS, qC, qT, qU, qV, qW, qX, qY, qZ, zK, fixed, zL, wit, Option.isSome_some, qH, St.with, zE, Array.size, te, einl, inls, efr]
    · have k4 := k3 false
      simp (maxSteps := 1000000) (implicitDefEqProofs := false) only [Try.ntmps54, Try.results54, efc54, q0, q1, h2, k1, k2, k4, bne_self_eq_false, ss, sd, zI, qG, zG, zH, St.get, qE, qF, qB, zD, norm, look, zF, qA, qI, St.alloc, St.drop, zA, part, zC, depth, qD, ↓reduceIte, Nat.reduceBEq, Nat.reduceAdd, Nat.reduceSub, Nat.reduceMul, Nat.reduceEqDiff, Nat.reduceLeDiff, Nat.reduceLT, qJ, qK, qL, qM, qN, qO, qP, qQ, qR, zJ, qS, qC, qT, qU, qV, qW, qX, qY, qZ, zK, fixed, zL, wit, Option.isSome_some, qH, St.with, zE, Array.size, te, einl, inls, efr]
  · simp only [if_neg h1] at k3 ⊢
    by_cases h2 : n < 0
    · have k4 := k3 true
      simp only [if_true] at k4
      simp (maxSteps := 1000000) (implicitDefEqProofs := false) only [Try.ntmps54, Try.results54, efc54, q0, q1, h2, k1, k2, k4, bne_self_eq_false, Bool.bne_false, Bool.true_bne, Bool.not_false, if_true, ss, sd, zI, qG, zG, zH, St.get, qE, qF, qB, zD, norm, look, zF, qA, qI, St.alloc, St.drop, zA, part, zC, depth, qD, ↓reduceIte, Nat.reduceBEq, Nat.reduceAdd, Nat.reduceSub, Nat.reduceMul, Nat.reduceEqDiff, Nat.reduceLeDiff, Nat.reduceLT, qJ, qK, qL, qM, qN, qO, qP, qQ, qR, zJ, qS, qC, qT, qU, qV, qW, qX, qY, qZ, zK, fixed, zL, wit, Option.isSome_some, qH, St.with, zE, Array.size, te, einl, inls, efr]
    · have k4 := k3 false
      simp only [Bool.false_eq_true, if_false] at k4
      simp (maxSteps := 1000000) (implicitDefEqProofs := false) only [Try.ntmps54, Try.results54, efc54, q0, q1, h2, k1, k2, k4, bne_self_eq_false, if_false, ss, sd, zI, qG, zG, zH, St.get, qE, qF, qB, zD, norm, look, zF, qA, qI, St.alloc, St.drop, zA, part, zC, depth, qD, ↓reduceIte, Nat.reduceBEq, Nat.reduceAdd, Nat.reduceSub, Nat.reduceMul, Nat.reduceEqDiff, Nat.reduceLeDiff, Nat.reduceLT, qJ, qK, qL, qM, qN, qO, qP, qQ, qR, zJ, qS, qC, qT, qU, qV, qW, qX, qY, qZ, zK, fixed, zL, wit, Option.isSome_some, qH, St.with, zE, Array.size, te, einl, inls, efr]

theorem okT65 : okCode (Try.f65.body.getD .skip) = true := by decide +kernel
set_option maxRecDepth 20000 in
set_option maxHeartbeats 4000000 in
theorem c65 (n d : Int) (hn : -4611686018427387904 ≤ n ∧ n ≤ 4611686018427387904) (hd : 1 ≤ d ∧ d ≤ 4611686018427387904) : (orcω E XS).call 65 [.int .i64 n, .int .i64 d] = some (encR (makeR n d)) := by
  refine call_of rfl fn65 rfl ?_
  have hok := okT65
  simp only [Try.f65, Option.getD_some, okCode, Bool.and_eq_true, Bool.and_true, Bool.true_and] at hok
  have k1 := c93 n hn
  have k2 := c93 d (by omega)
  have k3 := k94 n.natAbs d.natAbs
  have q0 : (d == 0) = false := by simp; omega
  have q1 : ¬ d < 0 := by omega
  have g1 := gcd_one (a := n.natAbs) (b := d.natAbs) (by omega)
  have w1 := u64_div (a := n.natAbs) (g := Nat.gcd n.natAbs d.natAbs) (by omega) g1
  have w2 := u64_div (a := d.natAbs) (g := Nat.gcd n.natAbs d.natAbs) (by omega) g1
  unfold makeR encR
  generalize Nat.gcd n.natAbs d.natAbs = g at *
  have z0 : ¬ (g : Int) = 0 := by omega
  generalize n.natAbs / g = a at *
  generalize d.natAbs / g = b at *
  by_cases h1 : 1099511627776 < a
  · have p1 : (1099511627776 : Int) < a := by omega
    simp (maxSteps := 1000000) (implicitDefEqProofs := false) only [Try.ntmps65, Try.results65, efc65, q0, k1, k2, k3, evRegion_st hok, ne_eq, z0, not_false_eq_true, w1, w2, p1, h1, true_or, if_true, ss, sd, zI, qG, zG, zH, St.get, qE, qF, qB, zD, norm, look, zF, qA, qI, St.alloc, St.drop, zA, part, zC, depth, qD, ↓reduceIte, Nat.reduceBEq, Nat.reduceAdd, Nat.reduceSub, Nat.reduceMul, Nat.reduceEqDiff, Nat.reduceLeDiff, Nat.reduceLT, qJ, qK, qL, qM, qN, qO, qP, qQ, qR, zJ, qS, qC, qT, qU, qV, qW, qX, qY, qZ, zK, fixed, zL, wit, Option.isSome_some, qH, St.with, zE, Array.size, te, einl, inls, efr]
  · have p1 : ¬ (1099511627776 : Int) < a := by omega
    by_cases h2 : 1048576 < b
    · have p2 : (1048576 : Int) < b := by omega
      simp (maxSteps := 1000000) (implicitDefEqProofs := false) only [Try.ntmps65, Try.results65, efc65, q0, k1, k2, k3, evRegion_st hok, ne_eq, z0, not_false_eq_true, w1, w2, p1, p2, h1, h2, or_true, if_true, ss, sd, zI, qG, zG, zH, St.get, qE, qF, qB, zD, norm, look, zF, qA, qI, St.alloc, St.drop, zA, part, zC, depth, qD, ↓reduceIte, Nat.reduceBEq, Nat.reduceAdd, Nat.reduceSub, Nat.reduceMul, Nat.reduceEqDiff, Nat.reduceLeDiff, Nat.reduceLT, qJ, qK, qL, qM, qN, qO, qP, qQ, qR, zJ, qS, qC, qT, qU, qV, qW, qX, qY, qZ, zK, fixed, zL, wit, Option.isSome_some, qH, St.with, zE, Array.size, te, einl, inls, efr]
    · have p2 : ¬ (1048576 : Int) < b := by omega
      have w3 : IntKind.i64.wrap (a : Int) = a := wrap_in (by omega)
      have w4 : IntKind.i64.wrap (b : Int) = b := wrap_in (by omega)
      have w5 : IntKind.i64.wrap (0 - (a : Int)) = -a := by rw [wrap_in (by omega)]; omega
      by_cases h3 : n < 0
      · simp (maxSteps := 1000000) (implicitDefEqProofs := false) only [Try.ntmps65, Try.results65, efc65, q0, q1, h3, k1, k2, k3, evRegion_st hok, ne_eq, z0, not_false_eq_true, w1, w2, w3, w4, w5, p1, p2, h1, h2, or_self, if_false, if_true, Bool.bne_false, ss, sd, zI, qG, zG, zH, St.get, qE, qF, qB, zD, norm, look, zF, qA, qI, St.alloc, St.drop, zA, part, zC, depth, qD, ↓reduceIte, Nat.reduceBEq, Nat.reduceAdd, Nat.reduceSub, Nat.reduceMul, Nat.reduceEqDiff, Nat.reduceLeDiff, Nat.reduceLT, qJ, qK, qL, qM, qN, qO, qP, qQ, qR, zJ, qS, qC, qT, qU, qV, qW, qX, qY, qZ, zK, fixed, zL, wit, Option.isSome_some, qH, St.with, zE, Array.size, te, einl, inls, efr]
      · simp (maxSteps := 1000000) (implicitDefEqProofs := false) only [Try.ntmps65, Try.results65, efc65, q0, q1, h3, k1, k2, k3, evRegion_st hok, ne_eq, z0, not_false_eq_true, w1, w2, w3, w4, p1, p2, h1, h2, or_self, if_false, bne_self_eq_false, ss, sd, zI, qG, zG, zH, St.get, qE, qF, qB, zD, norm, look, zF, qA, qI, St.alloc, St.drop, zA, part, zC, depth, qD, ↓reduceIte, Nat.reduceBEq, Nat.reduceAdd, Nat.reduceSub, Nat.reduceMul, Nat.reduceEqDiff, Nat.reduceLeDiff, Nat.reduceLT, qJ, qK, qL, qM, qN, qO, qP, qQ, qR, zJ, qS, qC, qT, qU, qV, qW, qX, qY, qZ, zK, fixed, zL, wit, Option.isSome_some, qH, St.with, zE, Array.size, te, einl, inls, efr]
end Go.AM.E

