/-
Fractions (num.Make, Add, Mul, Valid) at values that are not negative.
-/
import Derived.Test.YteocppddjlglbaaFBase
set_option linter.unusedVariables false
set_option linter.unusedSimpArgs false
set_option maxRecDepth 20000

namespace Go.AM.F
open Go Go.AM Go.Proofs

def makeN (n d : Nat) : Nat × Nat × Int :=
  if 1099511627776 < n / Nat.gcd n d ∨ 1048576 < d / Nat.gcd n d then (0, 0, 4) else (n / Nat.gcd n d, d / Nat.gcd n d, 0)
def ratV (n d : Nat) : V := .agg [.int .i64 (n : Int), .int .i64 (d : Int)]
def encN (r : Nat × Nat × Int) : V := .tup [ratV r.1 r.2.1, .int .i64 r.2.2]

theorem u64_nat {n : Nat} (h : n ≤ 9223372036854775807) : IntKind.u64.wrap (n : Int) = n := IntWalk.u64_in _ (by omega)
theorem u64_div {a g : Nat} (h : a ≤ 9223372036854775807) (hg : 1 ≤ g) : IntKind.u64.wrap ((a : Int).tdiv (g : Int)) = ((a / g : Nat) : Int) := by
  rw [IntWalk.u64_quo _ _ (by omega)]
  simp
theorem i64_nat {n : Nat} (h : n ≤ 9223372036854775807) : IntKind.i64.wrap (n : Int) = n := wrap_in (by omega)

theorem c29 (a b : Nat) : (orcω E X0).call 29 [.int .u64 a, .int .u64 b] = some (.int .u64 ((Nat.gcd a b : Nat) : Int)) := by
  refine (orcω_le 0).call _ _ _ ?_
  have h1 : (0 : Int) ≤ (a : Int) := by omega
  have h2 : (0 : Int) ≤ (b : Int) := by omega
  simp only [orc, X0, gcdAt, h1, h2, and_self, if_true, Int.toNat_natCast]
theorem c28 (n : Nat) (h : n ≤ 4611686018427387904) : (orcω E X0).call 28 [.int .i64 n] = some (.int .u64 (n : Int)) := by
  refine call_of rfl fn28 rfl ?_
  have hn : ¬ (n : Int) < 0 := by omega
  have w1 := u64_nat (n := n) (by omega)
  simp (maxSteps := 1000000) (implicitDefEqProofs := false) only [Try.ntmps28, Try.results28, efc28, hn, w1, ss, sd, zH, qG, zF, zG, St.get, qE, qF, qB, zC, norm, look, zE, qA, qI, St.alloc, St.drop, zA, part, zB, depth, qD, ↓reduceIte, Nat.reduceBEq, Nat.reduceAdd, Nat.reduceSub, Nat.reduceMul, Nat.reduceEqDiff, Nat.reduceLeDiff, Nat.reduceLT, qJ, qK, qL, qM, qN, qO, qP, qQ, qR, zI, qS, qC, qT, evSlice0, qV, qW, qX, qY, qZ, zJ, zK, zL, wit, Option.isSome_some, qH, xK, evPre, St.with, zD, Array.size, toldV, isIntV, orArr, offB, effFr, effFr2, effFr3, mapIn, restSame, sameO, eqW, eqWL, pickR, te, einl, inls, efr]

theorem okT13 : okCode (Try.f13.body.getD .skip) = true := by decide +kernel
set_option maxHeartbeats 4000000 in
theorem c13 (n d : Nat) (hn : n ≤ 4611686018427387904) (hd : 1 ≤ d ∧ d ≤ 4611686018427387904) : (orcω E X0).call 13 [.int .i64 n, .int .i64 d] = some (encN (makeN n d)) := by
  refine call_of rfl fn13 rfl ?_
  have hok := okT13
  simp only [Try.f13, Option.getD_some, okCode, Bool.and_eq_true, Bool.and_true, Bool.true_and] at hok
  have k1 := c28 n hn
  have k2 := c28 d (by omega)
  have k3 := c29 n d
  have q0 : ((d : Int) == 0) = false := by simp; omega
  have q1 : ¬ (d : Int) < 0 := by omega
  have q2 : ¬ (n : Int) < 0 := by omega
  have g1 : 1 ≤ Nat.gcd n d := Nat.gcd_pos_of_pos_right _ hd.1
  have w1 := u64_div (a := n) (g := Nat.gcd n d) (by omega) g1
  have w2 := u64_div (a := d) (g := Nat.gcd n d) (by omega) g1
  unfold makeN encN ratV
  generalize Nat.gcd n d = g at *
  have z0 : ¬ (g : Int) = 0 := by omega
  generalize n / g = a at *
  generalize d / g = b at *
  by_cases h1 : 1099511627776 < a
  · have p1 : (1099511627776 : Int) < a := by omega
    simp (maxSteps := 1000000) (implicitDefEqProofs := false) only [Try.ntmps13, Try.results13, efc13, q0, k1, k2, k3, evRegion_st hok, ne_eq, z0, not_false_eq_true, w1, w2, p1, h1, true_or, if_true, Int.natCast_zero, ss, sd, zH, qG, zF, zG, St.get, qE, qF, qB, zC, norm, look, zE, qA, qI, St.alloc, St.drop, zA, part, zB, depth, qD, ↓reduceIte, Nat.reduceBEq, Nat.reduceAdd, Nat.reduceSub, Nat.reduceMul, Nat.reduceEqDiff, Nat.reduceLeDiff, Nat.reduceLT, qJ, qK, qL, qM, qN, qO, qP, qQ, qR, zI, qS, qC, qT, evSlice0, qV, qW, qX, qY, qZ, zJ, zK, zL, wit, Option.isSome_some, qH, xK, evPre, St.with, zD, Array.size, toldV, isIntV, orArr, offB, effFr, effFr2, effFr3, mapIn, restSame, sameO, eqW, eqWL, pickR, te, einl, inls, efr]
  · have p1 : ¬ (1099511627776 : Int) < a := by omega
    by_cases h2 : 1048576 < b
    · have p2 : (1048576 : Int) < b := by omega
      simp (maxSteps := 1000000) (implicitDefEqProofs := false) only [Try.ntmps13, Try.results13, efc13, q0, k1, k2, k3, evRegion_st hok, ne_eq, z0, not_false_eq_true, w1, w2, p1, p2, h1, h2, or_true, if_true, Int.natCast_zero, ss, sd, zH, qG, zF, zG, St.get, qE, qF, qB, zC, norm, look, zE, qA, qI, St.alloc, St.drop, zA, part, zB, depth, qD, ↓reduceIte, Nat.reduceBEq, Nat.reduceAdd, Nat.reduceSub, Nat.reduceMul, Nat.reduceEqDiff, Nat.reduceLeDiff, Nat.reduceLT, qJ, qK, qL, qM, qN, qO, qP, qQ, qR, zI, qS, qC, qT, evSlice0, qV, qW, qX, qY, qZ, zJ, zK, zL, wit, Option.isSome_some, qH, xK, evPre, St.with, zD, Array.size, toldV, isIntV, orArr, offB, effFr, effFr2, effFr3, mapIn, restSame, sameO, eqW, eqWL, pickR, te, einl, inls, efr]
    · have p2 : ¬ (1048576 : Int) < b := by omega
      have w3 : IntKind.i64.wrap (a : Int) = a := wrap_in (by omega)
      have w4 : IntKind.i64.wrap (b : Int) = b := wrap_in (by omega)
      simp (maxSteps := 1000000) (implicitDefEqProofs := false) only [Try.ntmps13, Try.results13, efc13, q0, q1, q2, k1, k2, k3, evRegion_st hok, ne_eq, z0, not_false_eq_true, w1, w2, w3, w4, p1, p2, h1, h2, or_self, if_false, bne_self_eq_false, ss, sd, zH, qG, zF, zG, St.get, qE, qF, qB, zC, norm, look, zE, qA, qI, St.alloc, St.drop, zA, part, zB, depth, qD, ↓reduceIte, Nat.reduceBEq, Nat.reduceAdd, Nat.reduceSub, Nat.reduceMul, Nat.reduceEqDiff, Nat.reduceLeDiff, Nat.reduceLT, qJ, qK, qL, qM, qN, qO, qP, qQ, qR, zI, qS, qC, qT, evSlice0, qV, qW, qX, qY, qZ, zJ, zK, zL, wit, Option.isSome_some, qH, xK, evPre, St.with, zD, Array.size, toldV, isIntV, orArr, offB, effFr, effFr2, effFr3, mapIn, restSame, sameO, eqW, eqWL, pickR, te, einl, inls, efr]

def validN (n d : Nat) : Bool := decide (1 ≤ d) && decide (d ≤ 1048576) && decide (n ≤ 1099511627776) && decide (Nat.gcd n d = 1)
def SmallN (r : Nat × Nat) : Prop := r.1 ≤ 1099511627776 ∧ r.2 ≤ 1048576
theorem okT26 : okCode (Try.f26.body.getD .skip) = true := by decide +kernel
theorem c26 (n d : Nat) (h : SmallN (n, d)) : (orcω E X0).call 26 [ratV n d] = some (.bool (validN n d)) := by
  obtain ⟨h1, h2⟩ := h
  dsimp only at h1 h2
  refine call_of rfl fn26 rfl ?_
  have hok := okT26
  simp only [Try.f26, Option.getD_some, okCode, Bool.and_eq_true, Bool.and_true, Bool.true_and] at hok
  have k1 := c28 n (by omega)
  have k2 := c28 d (by omega)
  have k3 := c29 n d
  unfold validN
  rw [decide_eq_true h1, decide_eq_true h2]
  have p1 : (d : Int) ≤ 1048576 := by omega
  have p2 : (n : Int) ≤ 1099511627776 := by omega
  have p3 : (-1099511627776 : Int) ≤ n := by omega
  have p4 : (((Nat.gcd n d : Nat) : Int) == 1) = decide (Nat.gcd n d = 1) := by
    by_cases h : Nat.gcd n d = 1
    · rw [decide_eq_true h, h]; rfl
    · rw [decide_eq_false h]; simp; omega
  by_cases h0 : 1 ≤ d
  · have p0 : (1 : Int) ≤ d := by omega
    simp (maxSteps := 1000000) (implicitDefEqProofs := false) only [ratV, p0, p1, p2, p3, p4, h0, k1, k2, k3, evRegion_st hok, Bool.true_and, Try.ntmps26, Try.results26, efc26, ss, sd, zH, qG, zF, zG, St.get, qE, qF, qB, zC, norm, look, zE, qA, qI, St.alloc, St.drop, zA, part, zB, depth, qD, ↓reduceIte, Nat.reduceBEq, Nat.reduceAdd, Nat.reduceSub, Nat.reduceMul, Nat.reduceEqDiff, Nat.reduceLeDiff, Nat.reduceLT, qJ, qK, qL, qM, qN, qO, qP, qQ, qR, zI, qS, qC, qT, evSlice0, qV, qW, qX, qY, qZ, zJ, zK, zL, wit, Option.isSome_some, qH, xK, evPre, St.with, zD, Array.size, toldV, isIntV, orArr, offB, effFr, effFr2, effFr3, mapIn, restSame, sameO, eqW, eqWL, pickR, te, einl, inls, efr]
  · have p0 : ¬ (1 : Int) ≤ d := by omega
    simp (maxSteps := 1000000) (implicitDefEqProofs := false) only [ratV, p0, p1, p2, p3, p4, h0, k1, k2, k3, evRegion_st hok, Bool.false_and, Try.ntmps26, Try.results26, efc26, ss, sd, zH, qG, zF, zG, St.get, qE, qF, qB, zC, norm, look, zE, qA, qI, St.alloc, St.drop, zA, part, zB, depth, qD, ↓reduceIte, Nat.reduceBEq, Nat.reduceAdd, Nat.reduceSub, Nat.reduceMul, Nat.reduceEqDiff, Nat.reduceLeDiff, Nat.reduceLT, qJ, qK, qL, qM, qN, qO, qP, qQ, qR, zI, qS, qC, qT, evSlice0, qV, qW, qX, qY, qZ, zJ, zK, zL, wit, Option.isSome_some, qH, xK, evPre, St.with, zD, Array.size, toldV, isIntV, orArr, offB, effFr, effFr2, effFr3, mapIn, restSame, sameO, eqW, eqWL, pickR, te, einl, inls, efr]

def addN (a b : Nat × Nat) : Nat × Nat × Int := if validN a.1 a.2 && validN b.1 b.2 then makeN (a.1 * b.2 + b.1 * a.2) (a.2 * b.2) else (0, 0, 1)
set_option maxHeartbeats 4000000 in
theorem c9 (a b : Nat × Nat) (ha : SmallN a) (hb : SmallN b) : (orcω E X0).call 9 [ratV a.1 a.2, ratV b.1 b.2] = some (encN (addN a b)) := by
  obtain ⟨n, d⟩ := a
  obtain ⟨m, e⟩ := b
  refine call_of rfl fn9 rfl ?_
  have k1 := c26 n d ha
  have k2 := c26 m e hb
  obtain ⟨a1, a2⟩ := ha
  obtain ⟨b1, b2⟩ := hb
  dsimp only at a1 a2 b1 b2 ⊢
  unfold addN
  dsimp only
  simp only [ratV] at k1 k2
  cases hv : validN n d with
  | false =>
    rw [hv] at k1
    simp (maxSteps := 1000000) (implicitDefEqProofs := false) only [ratV, encN, k1, Bool.false_and, if_false, Int.natCast_zero, Bool.false_eq_true, Try.ntmps9, Try.results9, efc9, ss, sd, zH, qG, zF, zG, St.get, qE, qF, qB, zC, norm, look, zE, qA, qI, St.alloc, St.drop, zA, part, zB, depth, qD, ↓reduceIte, Nat.reduceBEq, Nat.reduceAdd, Nat.reduceSub, Nat.reduceMul, Nat.reduceEqDiff, Nat.reduceLeDiff, Nat.reduceLT, qJ, qK, qL, qM, qN, qO, qP, qQ, qR, zI, qS, qC, qT, evSlice0, qV, qW, qX, qY, qZ, zJ, zK, zL, wit, Option.isSome_some, qH, xK, evPre, St.with, zD, Array.size, toldV, isIntV, orArr, offB, effFr, effFr2, effFr3, mapIn, restSame, sameO, eqW, eqWL, pickR, te, einl, inls, efr]
  | true =>
  rw [hv] at k1
  cases hw : validN m e with
  | false =>
    rw [hw] at k2
    simp (maxSteps := 1000000) (implicitDefEqProofs := false) only [ratV, encN, k1, k2, Bool.and_false, if_false, Int.natCast_zero, Bool.false_eq_true, Try.ntmps9, Try.results9, efc9, ss, sd, zH, qG, zF, zG, St.get, qE, qF, qB, zC, norm, look, zE, qA, qI, St.alloc, St.drop, zA, part, zB, depth, qD, ↓reduceIte, Nat.reduceBEq, Nat.reduceAdd, Nat.reduceSub, Nat.reduceMul, Nat.reduceEqDiff, Nat.reduceLeDiff, Nat.reduceLT, qJ, qK, qL, qM, qN, qO, qP, qQ, qR, zI, qS, qC, qT, evSlice0, qV, qW, qX, qY, qZ, zJ, zK, zL, wit, Option.isSome_some, qH, xK, evPre, St.with, zD, Array.size, toldV, isIntV, orArr, offB, effFr, effFr2, effFr3, mapIn, restSame, sameO, eqW, eqWL, pickR, te, einl, inls, efr]
  | true =>
  rw [hw] at k2
  simp only [validN, Bool.and_eq_true, decide_eq_true_eq] at hv hw
  have m1 : n * e ≤ 1099511627776 * 1048576 := Nat.mul_le_mul a1 b2
  have m2 : m * d ≤ 1099511627776 * 1048576 := Nat.mul_le_mul b1 a2
  have m3 : d * e ≤ 1048576 * 1048576 := Nat.mul_le_mul a2 b2
  have m4 : 0 < d * e := Nat.mul_pos (by omega) (by omega)
  have k3 := c13 (n * e + m * d) (d * e) (by omega) (by omega)
  have w1 : IntKind.i64.wrap ((n : Int) * (e : Int)) = ((n * e : Nat) : Int) := by rw [← Int.natCast_mul]; exact wrap_in (by omega)
  have w2 : IntKind.i64.wrap ((m : Int) * (d : Int)) = ((m * d : Nat) : Int) := by rw [← Int.natCast_mul]; exact wrap_in (by omega)
  have w3 : IntKind.i64.wrap ((d : Int) * (e : Int)) = ((d * e : Nat) : Int) := by rw [← Int.natCast_mul]; exact wrap_in (by omega)
  have w4 : IntKind.i64.wrap (((n * e : Nat) : Int) + ((m * d : Nat) : Int)) = ((n * e + m * d : Nat) : Int) := by rw [← Int.natCast_add]; exact wrap_in (by omega)
  generalize makeN (n * e + m * d) (d * e) = r at *
  obtain ⟨r1, r2, r3⟩ := r
  simp only [encN, ratV] at k3
  simp (maxSteps := 1000000) (implicitDefEqProofs := false) only [ratV, encN, k1, k2, k3, w1, w2, w3, w4, Bool.and_self, if_true, Try.ntmps9, Try.results9, efc9, ss, sd, zH, qG, zF, zG, St.get, qE, qF, qB, zC, norm, look, zE, qA, qI, St.alloc, St.drop, zA, part, zB, depth, qD, ↓reduceIte, Nat.reduceBEq, Nat.reduceAdd, Nat.reduceSub, Nat.reduceMul, Nat.reduceEqDiff, Nat.reduceLeDiff, Nat.reduceLT, qJ, qK, qL, qM, qN, qO, qP, qQ, qR, zI, qS, qC, qT, evSlice0, qV, qW, qX, qY, qZ, zJ, zK, zL, wit, Option.isSome_some, qH, xK, evPre, St.with, zD, Array.size, toldV, isIntV, orArr, offB, effFr, effFr2, effFr3, mapIn, restSame, sameO, eqW, eqWL, pickR, te, einl, inls, efr]

def mulN (a b : Nat × Nat) : Nat × Nat × Int :=
  if validN a.1 a.2 && validN b.1 b.2 then
    (if (a.1 / Nat.gcd a.1 b.2 ≠ 0 ∧ 1099511627776 / (a.1 / Nat.gcd a.1 b.2) < b.1 / Nat.gcd b.1 a.2) ∨ 1048576 < (a.2 / Nat.gcd b.1 a.2) * (b.2 / Nat.gcd a.1 b.2) then (0, 0, 4)
     else makeN ((a.1 / Nat.gcd a.1 b.2) * (b.1 / Nat.gcd b.1 a.2)) ((a.2 / Nat.gcd b.1 a.2) * (b.2 / Nat.gcd a.1 b.2)))
  else (0, 0, 1)
theorem i64_quo {a g : Nat} (h : a ≤ 4611686018427387904) : IntKind.i64.wrap ((a : Int).tdiv (g : Int)) = ((a / g : Nat) : Int) := by
  have : (a : Int).tdiv (g : Int) = ((a / g : Nat) : Int) := rfl
  have h2 : a / g ≤ a := Nat.div_le_self _ _
  rw [this]; exact i64_nat (by omega)
theorem okT14 : okCode (Try.f14.body.getD .skip) = true := by decide +kernel
set_option maxHeartbeats 8000000 in
theorem c14 (a b : Nat × Nat) (ha : SmallN a) (hb : SmallN b) : (orcω E X0).call 14 [ratV a.1 a.2, ratV b.1 b.2] = some (encN (mulN a b)) := by
  obtain ⟨n, d⟩ := a
  obtain ⟨m, e⟩ := b
  refine call_of rfl fn14 rfl ?_
  have hok := okT14
  simp only [Try.f14, Option.getD_some, okCode, Bool.and_eq_true, Bool.and_true, Bool.true_and] at hok
  have k1 := c26 n d ha
  have k2 := c26 m e hb
  obtain ⟨a1, a2⟩ := ha
  obtain ⟨b1, b2⟩ := hb
  dsimp only at a1 a2 b1 b2 ⊢
  unfold mulN
  dsimp only
  simp only [ratV] at k1 k2
  cases hv : validN n d with
  | false =>
    rw [hv] at k1
    simp (maxSteps := 1000000) (implicitDefEqProofs := false) only [ratV, encN, k1, Bool.false_and, if_false, Int.natCast_zero, Bool.false_eq_true, Try.ntmps14, Try.results14, efc14, ss, sd, zH, qG, zF, zG, St.get, qE, qF, qB, zC, norm, look, zE, qA, qI, St.alloc, St.drop, zA, part, zB, depth, qD, ↓reduceIte, Nat.reduceBEq, Nat.reduceAdd, Nat.reduceSub, Nat.reduceMul, Nat.reduceEqDiff, Nat.reduceLeDiff, Nat.reduceLT, qJ, qK, qL, qM, qN, qO, qP, qQ, qR, zI, qS, qC, qT, evSlice0, qV, qW, qX, qY, qZ, zJ, zK, zL, wit, Option.isSome_some, qH, xK, evPre, St.with, zD, Array.size, toldV, isIntV, orArr, offB, effFr, effFr2, effFr3, mapIn, restSame, sameO, eqW, eqWL, pickR, te, einl, inls, efr]
  | true =>
  rw [hv] at k1
  cases hw : validN m e with
  | false =>
    rw [hw] at k2
    simp (maxSteps := 1000000) (implicitDefEqProofs := false) only [ratV, encN, k1, k2, Bool.and_false, if_false, Int.natCast_zero, Bool.false_eq_true, Try.ntmps14, Try.results14, efc14, ss, sd, zH, qG, zF, zG, St.get, qE, qF, qB, zC, norm, look, zE, qA, qI, St.alloc, St.drop, zA, part, zB, depth, qD, ↓reduceIte, Nat.reduceBEq, Nat.reduceAdd, Nat.reduceSub, Nat.reduceMul, Nat.reduceEqDiff, Nat.reduceLeDiff, Nat.reduceLT, qJ, qK, qL, qM, qN, qO, qP, qQ, qR, zI, qS, qC, qT, evSlice0, qV, qW, qX, qY, qZ, zJ, zK, zL, wit, Option.isSome_some, qH, xK, evPre, St.with, zD, Array.size, toldV, isIntV, orArr, offB, effFr, effFr2, effFr3, mapIn, restSame, sameO, eqW, eqWL, pickR, te, einl, inls, efr]
  | true =>
  rw [hw] at k2
  simp only [validN, Bool.and_eq_true, decide_eq_true_eq] at hv hw
  have g1 : 1 ≤ Nat.gcd n e := Nat.gcd_pos_of_pos_right _ (by omega)
  have g2 : 1 ≤ Nat.gcd m d := Nat.gcd_pos_of_pos_right _ (by omega)
  have l1 : Nat.gcd n e ≤ e := Nat.gcd_le_right _ (by omega)
  have l2 : Nat.gcd m d ≤ d := Nat.gcd_le_right _ (by omega)
  have j1 := c28 n (by omega)
  have j2 := c28 e (by omega)
  have j3 := c29 n e
  have j4 := c28 m (by omega)
  have j5 := c28 d (by omega)
  have j6 := c29 m d
  have w1 : IntKind.i64.wrap ((Nat.gcd n e : Nat) : Int) = ((Nat.gcd n e : Nat) : Int) := i64_nat (by omega)
  have w2 : IntKind.i64.wrap ((Nat.gcd m d : Nat) : Int) = ((Nat.gcd m d : Nat) : Int) := i64_nat (by omega)
  have p1 : 1 ≤ e / Nat.gcd n e := (Nat.one_le_div_iff (by omega)).2 l1
  have p2 : 1 ≤ d / Nat.gcd m d := (Nat.one_le_div_iff (by omega)).2 l2
  generalize Nat.gcd n e = g at *
  generalize Nat.gcd m d = h at *
  have z1 : ¬ (g : Int) = 0 := by omega
  have z2 : ¬ (h : Int) = 0 := by omega
  have u1 := i64_quo (a := n) (g := g) (by omega)
  have u2 := i64_quo (a := m) (g := h) (by omega)
  have u3 := i64_quo (a := d) (g := h) (by omega)
  have u4 := i64_quo (a := e) (g := g) (by omega)
  have b3 : n / g ≤ n := Nat.div_le_self _ _
  have b4 : m / h ≤ m := Nat.div_le_self _ _
  have b5 : d / h ≤ d := Nat.div_le_self _ _
  have b6 : e / g ≤ e := Nat.div_le_self _ _
  generalize n / g = N at *
  generalize m / h = M at *
  generalize d / h = D at *
  generalize e / g = F at *
  have m3 : D * F ≤ 1048576 * 1048576 := Nat.mul_le_mul (by omega) (by omega)
  have m4 : 0 < D * F := Nat.mul_pos (by omega) (by omega)
  have w3 : IntKind.i64.wrap ((D : Int) * (F : Int)) = ((D * F : Nat) : Int) := by rw [← Int.natCast_mul]; exact wrap_in (by omega)
  have j7 := c28 M (by omega)
  have j8 := c28 N (by omega)
  have fin : ¬ ((N ≠ 0 ∧ 1099511627776 / N < M) ∨ 1048576 < D * F) → IntKind.i64.wrap ((N : Int) * (M : Int)) = ((N * M : Nat) : Int) ∧ (orcω E X0).call 13 [.int .i64 ((N * M : Nat) : Int), .int .i64 ((D * F : Nat) : Int)] = some (encN (makeN (N * M) (D * F))) := fun hh => by
    have hm : N * M ≤ 1099511627776 := by
      by_cases h0 : N = 0
      · rw [h0, Nat.zero_mul]; omega
      · have : M ≤ 1099511627776 / N := by omega
        exact Nat.le_trans (Nat.mul_le_mul_left _ this) (Nat.mul_div_le _ _)
    exact ⟨by rw [← Int.natCast_mul]; exact wrap_in (by omega), c13 _ _ (by omega) (by omega)⟩
  have hgt : ((1048576 : Int) < ((D * F : Nat) : Int)) ↔ 1048576 < D * F := by omega
  by_cases hN : N = 0
  · have q1 : ((N : Int) != 0) = false := by simp [hN]
    by_cases hD : 1048576 < D * F
    · have p3 := hgt.2 hD
      simp (maxSteps := 1000000) (implicitDefEqProofs := false) only [ratV, encN, k1, k2, j1, j2, j3, j4, j5, j6, w1, w2, w3, z1, z2, u1, u2, u3, u4, ne_eq, not_false_eq_true, evRegion_st hok.1, evRegion_st hok.2.1, evRegion_st hok.2.2, q1, hD, p3, or_true, Bool.and_self, if_true, Int.natCast_zero, Try.ntmps14, Try.results14, efc14, ss, sd, zH, qG, zF, zG, St.get, qE, qF, qB, zC, norm, look, zE, qA, qI, St.alloc, St.drop, zA, part, zB, depth, qD, ↓reduceIte, Nat.reduceBEq, Nat.reduceAdd, Nat.reduceSub, Nat.reduceMul, Nat.reduceEqDiff, Nat.reduceLeDiff, Nat.reduceLT, qJ, qK, qL, qM, qN, qO, qP, qQ, qR, zI, qS, qC, qT, evSlice0, qV, qW, qX, qY, qZ, zJ, zK, zL, wit, Option.isSome_some, qH, xK, evPre, St.with, zD, Array.size, toldV, isIntV, orArr, offB, effFr, effFr2, effFr3, mapIn, restSame, sameO, eqW, eqWL, pickR, te, einl, inls, efr]
    · obtain ⟨f1, f2⟩ := fin (by omega)
      have p3 : ¬ (1048576 : Int) < ((D * F : Nat) : Int) := by omega
      rw [if_pos (by decide : (true && true) = true), if_neg (by rintro (⟨h1, _⟩ | h1); exact h1 hN; exact hD h1)]
      generalize makeN (N * M) (D * F) = r at *
      obtain ⟨r1, r2, r3⟩ := r
      simp only [encN, ratV] at f2
      simp (maxSteps := 1000000) (implicitDefEqProofs := false) only [ratV, encN, k1, k2, j1, j2, j3, j4, j5, j6, w1, w2, w3, z1, z2, u1, u2, u3, u4, f1, f2, ne_eq, not_false_eq_true, evRegion_st hok.1, evRegion_st hok.2.1, evRegion_st hok.2.2, q1, p3, Try.ntmps14, Try.results14, efc14, ss, sd, zH, qG, zF, zG, St.get, qE, qF, qB, zC, norm, look, zE, qA, qI, St.alloc, St.drop, zA, part, zB, depth, qD, ↓reduceIte, Nat.reduceBEq, Nat.reduceAdd, Nat.reduceSub, Nat.reduceMul, Nat.reduceEqDiff, Nat.reduceLeDiff, Nat.reduceLT, qJ, qK, qL, qM, qN, qO, qP, qQ, qR, zI, qS, qC, qT, evSlice0, qV, qW, qX, qY, qZ, zJ, zK, zL, wit, Option.isSome_some, qH, xK, evPre, St.with, zD, Array.size, toldV, isIntV, orArr, offB, effFr, effFr2, effFr3, mapIn, restSame, sameO, eqW, eqWL, pickR, te, einl, inls, efr]
  · have q1 : ((N : Int) != 0) = true := by simp [hN]
    have zN : ¬ (N : Int) = 0 := by omega
    have u5 : IntKind.u64.wrap ((1099511627776 : Int).tdiv (N : Int)) = ((1099511627776 / N : Nat) : Int) := u64_div (a := 1099511627776) (g := N) (by omega) (by omega)
    by_cases hq : 1099511627776 / N < M
    · have p4 : ((1099511627776 / N : Nat) : Int) < (M : Int) := by omega
      simp (maxSteps := 1000000) (implicitDefEqProofs := false) only [ratV, encN, k1, k2, j1, j2, j3, j4, j5, j6, j7, j8, w1, w2, w3, z1, z2, zN, u1, u2, u3, u4, u5, ne_eq, not_false_eq_true, evRegion_st hok.1, evRegion_st hok.2.1, evRegion_st hok.2.2, q1, hN, hq, p4, and_self, true_or, Bool.and_self, if_true, Int.natCast_zero, Try.ntmps14, Try.results14, efc14, ss, sd, zH, qG, zF, zG, St.get, qE, qF, qB, zC, norm, look, zE, qA, qI, St.alloc, St.drop, zA, part, zB, depth, qD, ↓reduceIte, Nat.reduceBEq, Nat.reduceAdd, Nat.reduceSub, Nat.reduceMul, Nat.reduceEqDiff, Nat.reduceLeDiff, Nat.reduceLT, qJ, qK, qL, qM, qN, qO, qP, qQ, qR, zI, qS, qC, qT, evSlice0, qV, qW, qX, qY, qZ, zJ, zK, zL, wit, Option.isSome_some, qH, xK, evPre, St.with, zD, Array.size, toldV, isIntV, orArr, offB, effFr, effFr2, effFr3, mapIn, restSame, sameO, eqW, eqWL, pickR, te, einl, inls, efr]
    · have p4 : ¬ ((1099511627776 / N : Nat) : Int) < (M : Int) := by omega
      by_cases hD : 1048576 < D * F
      · have p3 := hgt.2 hD
        simp (maxSteps := 1000000) (implicitDefEqProofs := false) only [ratV, encN, k1, k2, j1, j2, j3, j4, j5, j6, j7, j8, w1, w2, w3, z1, z2, zN, u1, u2, u3, u4, u5, ne_eq, not_false_eq_true, evRegion_st hok.1, evRegion_st hok.2.1, evRegion_st hok.2.2, q1, hN, hq, p4, hD, p3, or_true, Bool.and_self, if_true, Int.natCast_zero, Try.ntmps14, Try.results14, efc14, ss, sd, zH, qG, zF, zG, St.get, qE, qF, qB, zC, norm, look, zE, qA, qI, St.alloc, St.drop, zA, part, zB, depth, qD, ↓reduceIte, Nat.reduceBEq, Nat.reduceAdd, Nat.reduceSub, Nat.reduceMul, Nat.reduceEqDiff, Nat.reduceLeDiff, Nat.reduceLT, qJ, qK, qL, qM, qN, qO, qP, qQ, qR, zI, qS, qC, qT, evSlice0, qV, qW, qX, qY, qZ, zJ, zK, zL, wit, Option.isSome_some, qH, xK, evPre, St.with, zD, Array.size, toldV, isIntV, orArr, offB, effFr, effFr2, effFr3, mapIn, restSame, sameO, eqW, eqWL, pickR, te, einl, inls, efr]
      · obtain ⟨f1, f2⟩ := fin (by omega)
        have p3 : ¬ (1048576 : Int) < ((D * F : Nat) : Int) := by omega
        generalize makeN (N * M) (D * F) = r at *
        obtain ⟨r1, r2, r3⟩ := r
        simp only [encN, ratV] at f2
        simp (maxSteps := 1000000) (implicitDefEqProofs := false) only [ratV, encN, k1, k2, j1, j2, j3, j4, j5, j6, j7, j8, w1, w2, w3, z1, z2, zN, u1, u2, u3, u4, u5, f1, f2, ne_eq, not_false_eq_true, evRegion_st hok.1, evRegion_st hok.2.1, evRegion_st hok.2.2, q1, hN, hq, p4, hD, p3, and_false, or_self, Bool.and_self, if_true, if_false, Try.ntmps14, Try.results14, efc14, ss, sd, zH, qG, zF, zG, St.get, qE, qF, qB, zC, norm, look, zE, qA, qI, St.alloc, St.drop, zA, part, zB, depth, qD, ↓reduceIte, Nat.reduceBEq, Nat.reduceAdd, Nat.reduceSub, Nat.reduceMul, Nat.reduceEqDiff, Nat.reduceLeDiff, Nat.reduceLT, qJ, qK, qL, qM, qN, qO, qP, qQ, qR, zI, qS, qC, qT, evSlice0, qV, qW, qX, qY, qZ, zJ, zK, zL, wit, Option.isSome_some, qH, xK, evPre, St.with, zD, Array.size, toldV, isIntV, orArr, offB, effFr, effFr2, effFr3, mapIn, restSame, sameO, eqW, eqWL, pickR, te, einl, inls, efr]
end Go.AM.F

