/-
The fraction of two numbers of 640 bits (lot.fraction).
-/
import Derived.Test.YteocppddjlglbaaFGcd
import Derived.Test.YteocppddjlglbaaFNum
set_option linter.unusedVariables false
set_option linter.unusedSimpArgs false
set_option maxRecDepth 20000

namespace Go.AM.F
open Go Go.AM Go.Proofs

abbrev overBig (a b : Nat) : Prop := bitsN b + 60 < bitsN a
theorem overV_big {a b : Nat} (h : overBig a b) : overV a b = .tup [.int .i64 0, .bool false] := if_pos h
theorem overV_ok {a b : Nat} (h : ¬ overBig a b) : overV a b = .tup [.int .i64 ((a / b : Nat) : Int), .bool true] := if_neg h
def fracN (n d : Nat) : Nat × Nat × Int :=
  if n = 0 then (0, 1, 0)
  else if overBig n (Nat.gcd n d) ∨ overBig d (Nat.gcd n d) then (0, 0, 4)
  else makeN (n / Nat.gcd n d) (d / Nat.gcd n d)
theorem over_lt {a b : Nat} (hb : b ≠ 0) (h : ¬ overBig a b) : a / b < 2 ^ 61 := by
  unfold overBig at h
  have h1 := bits_lt a
  have h2 := bits_ge hb
  have h3 : bitsN b ≠ 0 := by unfold bitsN; rw [if_neg hb]; omega
  rw [Nat.div_lt_iff_lt_mul (by omega)]
  have h4 : 2 ^ bitsN a ≤ 2 ^ (61 + (bitsN b - 1)) := Nat.pow_le_pow_right (by decide) (by omega)
  rw [Nat.pow_add] at h4
  have h5 : 2 ^ 61 * 2 ^ (bitsN b - 1) ≤ 2 ^ 61 * b := Nat.mul_le_mul_left _ h2
  omega

set_option maxHeartbeats 4000000 in
theorem c17 (n d : Nat) (hn : n < big) (hd : d < big) (hd0 : d ≠ 0) : (orcω E X0).call 17 [nV n, nV d] = some (encN (fracN n d)) := by
  refine call_of rfl fn17 rfl ?_
  have hz := is_zero hn
  unfold fracN
  by_cases h0 : n = 0
  · rw [decide_eq_true h0] at hz
    rw [if_pos h0]
    simp (maxSteps := 1000000) (implicitDefEqProofs := false) only [nV, natV, nn, hz, Option.map_some, encN, ratV, Int.natCast_zero, Int.natCast_one, Try.ntmps17, Try.results17, efc17, ss, sd, zH, qG, zF, zG, St.get, qE, qF, qB, zC, norm, look, zE, qA, qI, St.alloc, St.drop, zA, part, zB, depth, qD, ↓reduceIte, Nat.reduceBEq, Nat.reduceAdd, Nat.reduceSub, Nat.reduceMul, Nat.reduceEqDiff, Nat.reduceLeDiff, Nat.reduceLT, qJ, qK, qL, qM, qN, qO, qP, qQ, qR, zI, qS, qC, qT, evSlice0, qV, qW, qX, qY, qZ, zJ, zK, zL, wit, Option.isSome_some, qH, xK, evPre, St.with, zD, Array.size, toldV, isIntV, orArr, offB, effFr, effFr2, effFr3, mapIn, restSame, sameO, eqW, eqWL, pickR, te, einl, inls, efr]
    done
  rw [decide_eq_false h0] at hz
  rw [if_neg h0]
  have hg : Nat.gcd n d ≠ 0 := by have := Nat.gcd_pos_of_pos_right n (Nat.pos_of_ne_zero hd0); omega
  have hgn : Nat.gcd n d ≤ n := Nat.gcd_le_left _ (by omega)
  have hgd : Nat.gcd n d ≤ d := Nat.gcd_le_right _ (by omega)
  have k1 := c30 n d hn hd h0 hd0
  have k2 := c31 n (Nat.gcd n d) hn (by omega) hg
  have k3 := c31 d (Nat.gcd n d) hd (by omega) hg
  have hdd : 1 ≤ d / Nat.gcd n d := (Nat.one_le_div_iff (by omega)).2 hgd
  have k4 := fun (h1 : ¬ overBig n (Nat.gcd n d)) (h2 : ¬ overBig d (Nat.gcd n d)) => c13 (n / Nat.gcd n d) (d / Nat.gcd n d) (by have := over_lt hg h1; omega) ⟨hdd, by have := over_lt hg h2; omega⟩
  generalize Nat.gcd n d = g at *
  simp only [nV, natV] at k1 k2 k3
  by_cases h1 : overBig n g
  · rw [overV_big h1] at k2
    rw [if_pos (.inl h1)]
    by_cases h2 : overBig d g
    · rw [overV_big h2] at k3
      simp (maxSteps := 1000000) (implicitDefEqProofs := false) only [nV, natV, nn, hz, Option.map_some, k1, k2, k3, encN, ratV, Int.natCast_zero, Try.ntmps17, Try.results17, efc17, ss, sd, zH, qG, zF, zG, St.get, qE, qF, qB, zC, norm, look, zE, qA, qI, St.alloc, St.drop, zA, part, zB, depth, qD, ↓reduceIte, Nat.reduceBEq, Nat.reduceAdd, Nat.reduceSub, Nat.reduceMul, Nat.reduceEqDiff, Nat.reduceLeDiff, Nat.reduceLT, qJ, qK, qL, qM, qN, qO, qP, qQ, qR, zI, qS, qC, qT, evSlice0, qV, qW, qX, qY, qZ, zJ, zK, zL, wit, Option.isSome_some, qH, xK, evPre, St.with, zD, Array.size, toldV, isIntV, orArr, offB, effFr, effFr2, effFr3, mapIn, restSame, sameO, eqW, eqWL, pickR, te, einl, inls, efr]
      done
    · rw [overV_ok h2] at k3
      simp (maxSteps := 1000000) (implicitDefEqProofs := false) only [nV, natV, nn, hz, Option.map_some, k1, k2, k3, encN, ratV, Int.natCast_zero, Try.ntmps17, Try.results17, efc17, ss, sd, zH, qG, zF, zG, St.get, qE, qF, qB, zC, norm, look, zE, qA, qI, St.alloc, St.drop, zA, part, zB, depth, qD, ↓reduceIte, Nat.reduceBEq, Nat.reduceAdd, Nat.reduceSub, Nat.reduceMul, Nat.reduceEqDiff, Nat.reduceLeDiff, Nat.reduceLT, qJ, qK, qL, qM, qN, qO, qP, qQ, qR, zI, qS, qC, qT, evSlice0, qV, qW, qX, qY, qZ, zJ, zK, zL, wit, Option.isSome_some, qH, xK, evPre, St.with, zD, Array.size, toldV, isIntV, orArr, offB, effFr, effFr2, effFr3, mapIn, restSame, sameO, eqW, eqWL, pickR, te, einl, inls, efr]
      done
  · rw [overV_ok h1] at k2
    by_cases h2 : overBig d g
    · rw [overV_big h2] at k3
      rw [if_pos (.inr h2)]
      simp (maxSteps := 1000000) (implicitDefEqProofs := false) only [nV, natV, nn, hz, Option.map_some, k1, k2, k3, encN, ratV, Int.natCast_zero, Try.ntmps17, Try.results17, efc17, ss, sd, zH, qG, zF, zG, St.get, qE, qF, qB, zC, norm, look, zE, qA, qI, St.alloc, St.drop, zA, part, zB, depth, qD, ↓reduceIte, Nat.reduceBEq, Nat.reduceAdd, Nat.reduceSub, Nat.reduceMul, Nat.reduceEqDiff, Nat.reduceLeDiff, Nat.reduceLT, qJ, qK, qL, qM, qN, qO, qP, qQ, qR, zI, qS, qC, qT, evSlice0, qV, qW, qX, qY, qZ, zJ, zK, zL, wit, Option.isSome_some, qH, xK, evPre, St.with, zD, Array.size, toldV, isIntV, orArr, offB, effFr, effFr2, effFr3, mapIn, restSame, sameO, eqW, eqWL, pickR, te, einl, inls, efr]
      done
    · rw [overV_ok h2] at k3
      rw [if_neg (by rintro (h | h); exact h1 h; exact h2 h)]
      have k5 := k4 h1 h2
      generalize makeN (n / g) (d / g) = r at *
      obtain ⟨r1, r2, r3⟩ := r
      simp only [encN, ratV] at k5
      simp (maxSteps := 1000000) (implicitDefEqProofs := false) only [nV, natV, nn, hz, Option.map_some, k1, k2, k3, k5, encN, ratV, Int.natCast_zero, Try.ntmps17, Try.results17, efc17, ss, sd, zH, qG, zF, zG, St.get, qE, qF, qB, zC, norm, look, zE, qA, qI, St.alloc, St.drop, zA, part, zB, depth, qD, ↓reduceIte, Nat.reduceBEq, Nat.reduceAdd, Nat.reduceSub, Nat.reduceMul, Nat.reduceEqDiff, Nat.reduceLeDiff, Nat.reduceLT, qJ, qK, qL, qM, qN, qO, qP, qQ, qR, zI, qS, qC, qT, evSlice0, qV, qW, qX, qY, qZ, zJ, zK, zL, wit, Option.isSome_some, qH, xK, evPre, St.with, zD, Array.size, toldV, isIntV, orArr, offB, effFr, effFr2, effFr3, mapIn, restSame, sameO, eqW, eqWL, pickR, te, einl, inls, efr]
      done
end Go.AM.F

