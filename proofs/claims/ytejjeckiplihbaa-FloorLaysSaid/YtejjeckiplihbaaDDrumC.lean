/-
The drum of the document: it counts up to the first points of the lattice on its axes.
-/
import Derived.Test.YtejjeckiplihbaaDDrumB
import Derived.Test.YtejjeckiplihbaaDLatB
set_option linter.unusedSimpArgs false
set_option maxRecDepth 20000

namespace Go.AM.D
open Go Go.AM Go.Proofs

/-- How far round, in plain numbers. -/
def roundN (W S H : Nat) : Nat := H * (W / Nat.gcd W S)
theorem drumC_eq {W S H : Nat} (hW : 1 ≤ W) : ((H : Int) * W).tdiv (Nat.gcd W S : Nat) = (roundN W S H : Nat) := by
  unfold roundN
  rw [show (H : Int) * W = ((H * W : Nat) : Int) from (Int.natCast_mul H W).symm, ← Nat.mul_div_assoc _ (Nat.gcd_dvd_left W S)]
  rfl
theorem inL_round {W S H n : Nat} (hW : 1 ≤ W) (hH : 1 ≤ H) (hn : 1 ≤ n) (hle : n ≤ roundN W S H) : inL W S H 0 n = (n == roundN W S H) := by
  have g1 : 0 < Nat.gcd W S := Nat.gcd_pos_of_pos_left _ (by omega)
  obtain ⟨w, hw⟩ := Nat.gcd_dvd_left W S
  obtain ⟨s, hs⟩ := Nat.gcd_dvd_right W S
  have cop : Nat.Coprime w s := by
    have c := Nat.coprime_div_gcd_div_gcd g1
    have e1 : W / Nat.gcd W S = w := by rw [Nat.div_eq_iff_eq_mul_left g1 (Nat.gcd_dvd_left W S), Nat.mul_comm]; exact hw
    have e2 : S / Nat.gcd W S = s := by rw [Nat.div_eq_iff_eq_mul_left g1 (Nat.gcd_dvd_right W S), Nat.mul_comm]; exact hs
    rwa [e1, e2] at c
  have e1 : W / Nat.gcd W S = w := by rw [Nat.div_eq_iff_eq_mul_left g1 (Nat.gcd_dvd_left W S), Nat.mul_comm]; exact hw
  unfold roundN at *
  rw [e1] at hle ⊢
  have w0 : 0 < w := by
    rcases Nat.eq_zero_or_pos w with z | z
    · rw [z] at hw; omega
    · exact z
  unfold inL
  have key : ∀ k : Nat, ((0 - (k : Int) * (S : Int)) % (W : Int) == 0) = decide (w ∣ k) := by
    intro k
    have a : ((0 - (k : Int) * (S : Int)) % (W : Int) = 0) ↔ w ∣ k := by
      rw [← Int.dvd_iff_emod_eq_zero, Int.zero_sub, Int.dvd_neg, show (k : Int) * (S : Int) = ((k * S : Nat) : Int) from (Int.natCast_mul k S).symm, Int.natCast_dvd_natCast]
      have q : W ∣ k * S ↔ Nat.gcd W S * w ∣ Nat.gcd W S * (k * s) := by
        rw [← hw, show Nat.gcd W S * (k * s) = k * S by rw [Nat.mul_left_comm, ← hs]]
      rw [q, Nat.mul_dvd_mul_iff_left g1]
      exact ⟨fun h => cop.dvd_of_dvd_mul_right h, fun h => Nat.dvd_trans h (Nat.dvd_mul_right k s)⟩
    by_cases d : w ∣ k
    · rw [decide_eq_true d, beq_iff_eq]; exact a.2 d
    · rw [decide_eq_false d]
      have : ¬ ((0 - (k : Int) * (S : Int)) % (W : Int) = 0) := fun h => d (a.1 h)
      simpa using this
  have z : (n : Int) % (H : Int) = ((n % H : Nat) : Int) := rfl
  have dz : (n : Int) / (H : Int) = ((n / H : Nat) : Int) := rfl
  rw [z, dz, key]
  by_cases r : n % H = 0
  · have e : n = H * (n / H) := by have := Nat.div_add_mod n H; omega
    have kle : n / H ≤ w := by
      rw [e] at hle
      exact Nat.le_of_mul_le_mul_left hle hH
    have k1 : 1 ≤ n / H := by
      rcases Nat.eq_zero_or_pos (n / H) with z | z
      · rw [z] at e; omega
      · exact z
    by_cases q : n / H = w
    · have : n = H * w := by rw [← q]; exact e
      rw [r, q]
      simp [this]
    · have nd : ¬ w ∣ n / H := fun h => by have := Nat.le_of_dvd (by omega) h; omega
      have : ¬ n = H * w := fun h => q (by rw [h]; exact Nat.mul_div_cancel_left w hH)
      rw [r]
      simp [nd, this]
  · have : ¬ n = H * w := fun h => r (by rw [h]; exact Nat.mul_mod_right H w)
    have q : ¬ ((n % H : Nat) : Int) = 0 := by omega
    rw [beq_false_of_ne q, Bool.false_and, beq_false_of_ne this]
theorem inL_wide {W S H n : Nat} (hn : 1 ≤ n) (hle : n ≤ W) : inL W S H n 0 = (n == W) := by
  unfold inL
  rw [Int.zero_ediv, Int.zero_mul, Int.sub_zero, Int.zero_emod]
  have z : (n : Int) % (W : Int) = ((n % W : Nat) : Int) := rfl
  rw [z]
  by_cases e : n = W
  · subst e; simp
  · have : n % W = n := Nat.mod_eq_of_lt (by omega)
    rw [this]
    have q : ¬ (n : Int) = 0 := by omega
    rw [beq_false_of_ne q, beq_false_of_ne e]
    rfl
theorem round_pos {W S H : Nat} (hW : 1 ≤ W) (hH : 1 ≤ H) : 1 ≤ roundN W S H := by
  unfold roundN
  exact Nat.mul_pos hH (Nat.div_pos (Nat.le_of_dvd hW (Nat.gcd_dvd_left W S)) (Nat.gcd_pos_of_pos_left _ hW))
theorem round_le {W S H : Nat} (hW : 1 ≤ W ∧ W ≤ 144) (hH : 1 ≤ H ∧ H ≤ 144) : roundN W S H ≤ 20736 := by
  unfold roundN
  exact Nat.le_trans (Nat.mul_le_mul_left H (Nat.div_le_self W _)) (Nat.mul_le_mul hH.2 hW.2)

set_option maxHeartbeats 4000000 in
theorem c85 (p : Pat) (hn : p.cs.length ≤ 1000) : (orcω E X0).call 85 [encPat p] = some (drumV p) := by
  refine call_of rfl fn85 rfl ?_
  have k1 := c42 p (by omega)
  unfold drumV
  by_cases a : patE p = 0
  · have hp := patE_ok a
    have k3 := c119 p hp
    obtain ⟨u1, u2, _, _⟩ := leastW_spec hp
    obtain ⟨v1, v2, _, _⟩ := leastH_spec hp
    obtain ⟨x1, _, _⟩ := leastS_spec hp
    have w2 := hp.w2
    have h2 := hp.h2
    unfold drumC
    rw [drumC_eq u1]
    have hr := fun n h1 h2 => inL_round (W := leastW p) (S := leastS p) (H := leastH p) (n := n) u1 v1 h1 h2
    have hw := fun n h1 h2 => inL_wide (W := leastW p) (S := leastS p) (H := leastH p) (n := n) h1 h2
    have rp := round_pos (S := leastS p) u1 v1
    have rl := round_le (S := leastS p) (show 1 ≤ leastW p ∧ leastW p ≤ 144 by omega) (show 1 ≤ leastH p ∧ leastH p ≤ 144 by omega)
    rw [a] at k1
    generalize (rowsP p (leastW p) (leastH p)).map vI = tab at *
    have k4 := fun x y hx hy => c120 false tab (leastW p) (leastS p) (leastH p) x y (by omega) (by omega) (by omega) hx hy
    generalize roundN (leastW p) (leastS p) (leastH p) = R at *
    generalize leastW p = W at *
    generalize leastH p = H at *
    generalize leastS p = S at *
    unfold encPat at *
    simp (maxSteps := 1000000) (implicitDefEqProofs := false) only [Try.ntmps85, Try.results85, efc85, fc85, k1, k3, bne_self_eq_false, ss, sd, evOp, evPlain, evVal, evMem, St.get, sliceOf, arrayOf, fieldsOf, normOf, norm, look, evVar, evFieldAddr, nameOf, St.alloc, St.drop, killOb, part, splice, depth, resultsV, ↓reduceIte, Nat.reduceBEq, Nat.reduceAdd, Nat.reduceSub, Nat.reduceMul, Nat.reduceEqDiff, Nat.reduceLeDiff, Nat.reduceLT, effOf, effMem, effVar, effLit, effMake, effApp, lend, evLit, evNil, freeze, evField, evIndexT, orNil, evSlice, placeOf, evMap, mapOf, keyOk, evFrame, closed, fixed, sameEs, wit, Option.isSome_some, St.with, wantedD, Array.size, te, einl, inls, efr]
    generalize hr : loopAt _ _ _ _ _ _ = r; revert r
    refine loop_inv (ι := { n : Nat // 1 ≤ n ∧ n ≤ R }) (fun n => [(7, .int .i64 (n.1 : Nat))]) (fun _ => []) (fun n => R - n.1) ⟨1, by omega, rp⟩ (by simp (maxSteps := 1000000) (implicitDefEqProofs := false) only [Int.natCast_one, ss, sd, evOp, evPlain, evVal, evMem, St.get, sliceOf, arrayOf, fieldsOf, normOf, norm, look, evVar, evFieldAddr, nameOf, St.alloc, St.drop, killOb, part, splice, depth, resultsV, ↓reduceIte, Nat.reduceBEq, Nat.reduceAdd, Nat.reduceSub, Nat.reduceMul, Nat.reduceEqDiff, Nat.reduceLeDiff, Nat.reduceLT, effOf, effMem, effVar, effLit, effMake, effApp, lend, evLit, evNil, freeze, evField, evIndexT, orNil, evSlice, placeOf, evMap, mapOf, keyOk, evFrame, closed, fixed, sameEs, wit, Option.isSome_some, St.with, wantedD, Array.size, te, einl, inls, efr]) ?_
    rintro ⟨n, n1, n2⟩
    dsimp only
    have m1 := k4 0 n (by omega) (by omega)
    rw [hr n n1 n2] at m1
    have w1 : IntKind.i64.wrap ((n : Int) + 1) = ((n + 1 : Nat) : Int) := by rw [wrap_in (by omega)]; omega
    by_cases e : n = R
    · subst e
      rw [beq_self_eq_true] at m1
      simp (maxSteps := 1000000) (implicitDefEqProofs := false) only [m1, ss, sd, evOp, evPlain, evVal, evMem, St.get, sliceOf, arrayOf, fieldsOf, normOf, norm, look, evVar, evFieldAddr, nameOf, St.alloc, St.drop, killOb, part, splice, depth, resultsV, ↓reduceIte, Nat.reduceBEq, Nat.reduceAdd, Nat.reduceSub, Nat.reduceMul, Nat.reduceEqDiff, Nat.reduceLeDiff, Nat.reduceLT, effOf, effMem, effVar, effLit, effMake, effApp, lend, evLit, evNil, freeze, evField, evIndexT, orNil, evSlice, placeOf, evMap, mapOf, keyOk, evFrame, closed, fixed, sameEs, wit, Option.isSome_some, St.with, wantedD, Array.size, te, einl, inls, efr]
      generalize hr : loopAt _ _ _ _ _ _ = r; revert r
      refine loop_inv (ι := { n : Nat // 1 ≤ n ∧ n ≤ W }) (fun n => [(8, .int .i64 (n.1 : Nat))]) (fun _ => []) (fun n => W - n.1) ⟨1, by omega, u1⟩ (by simp (maxSteps := 1000000) (implicitDefEqProofs := false) only [Int.natCast_one, ss, sd, evOp, evPlain, evVal, evMem, St.get, sliceOf, arrayOf, fieldsOf, normOf, norm, look, evVar, evFieldAddr, nameOf, St.alloc, St.drop, killOb, part, splice, depth, resultsV, ↓reduceIte, Nat.reduceBEq, Nat.reduceAdd, Nat.reduceSub, Nat.reduceMul, Nat.reduceEqDiff, Nat.reduceLeDiff, Nat.reduceLT, effOf, effMem, effVar, effLit, effMake, effApp, lend, evLit, evNil, freeze, evField, evIndexT, orNil, evSlice, placeOf, evMap, mapOf, keyOk, evFrame, closed, fixed, sameEs, wit, Option.isSome_some, St.with, wantedD, Array.size, te, einl, inls, efr]) ?_
      rintro ⟨k, k1', k2'⟩
      dsimp only
      have m2 := k4 k 0 (by omega) (by omega)
      rw [hw k k1' k2'] at m2
      have w2 : IntKind.i64.wrap ((k : Int) + 1) = ((k + 1 : Nat) : Int) := by rw [wrap_in (by omega)]; omega
      by_cases e : k = W
      · subst e
        rw [beq_self_eq_true] at m2
        simp (maxSteps := 1000000) (implicitDefEqProofs := false) only [m2, Try.ntmps85, Try.results85, efc85, fc85, a, ss, sd, evOp, evPlain, evVal, evMem, St.get, sliceOf, arrayOf, fieldsOf, normOf, norm, look, evVar, evFieldAddr, nameOf, St.alloc, St.drop, killOb, part, splice, depth, resultsV, ↓reduceIte, Nat.reduceBEq, Nat.reduceAdd, Nat.reduceSub, Nat.reduceMul, Nat.reduceEqDiff, Nat.reduceLeDiff, Nat.reduceLT, effOf, effMem, effVar, effLit, effMake, effApp, lend, evLit, evNil, freeze, evField, evIndexT, orNil, evSlice, placeOf, evMap, mapOf, keyOk, evFrame, closed, fixed, sameEs, wit, Option.isSome_some, St.with, wantedD, Array.size, te, einl, inls, efr]
      · rw [beq_false_of_ne e] at m2
        simp (maxSteps := 1000000) (implicitDefEqProofs := false) only [m2, w2, ss, sd, evOp, evPlain, evVal, evMem, St.get, sliceOf, arrayOf, fieldsOf, normOf, norm, look, evVar, evFieldAddr, nameOf, St.alloc, St.drop, killOb, part, splice, depth, resultsV, ↓reduceIte, Nat.reduceBEq, Nat.reduceAdd, Nat.reduceSub, Nat.reduceMul, Nat.reduceEqDiff, Nat.reduceLeDiff, Nat.reduceLT, effOf, effMem, effVar, effLit, effMake, effApp, lend, evLit, evNil, freeze, evField, evIndexT, orNil, evSlice, placeOf, evMap, mapOf, keyOk, evFrame, closed, fixed, sameEs, wit, Option.isSome_some, St.with, wantedD, Array.size, te, einl, inls, efr]
        exact ⟨⟨k + 1, by omega, by omega⟩, rfl, by dsimp only; omega⟩
    · rw [beq_false_of_ne e] at m1
      simp (maxSteps := 1000000) (implicitDefEqProofs := false) only [m1, w1, ss, sd, evOp, evPlain, evVal, evMem, St.get, sliceOf, arrayOf, fieldsOf, normOf, norm, look, evVar, evFieldAddr, nameOf, St.alloc, St.drop, killOb, part, splice, depth, resultsV, ↓reduceIte, Nat.reduceBEq, Nat.reduceAdd, Nat.reduceSub, Nat.reduceMul, Nat.reduceEqDiff, Nat.reduceLeDiff, Nat.reduceLT, effOf, effMem, effVar, effLit, effMake, effApp, lend, evLit, evNil, freeze, evField, evIndexT, orNil, evSlice, placeOf, evMap, mapOf, keyOk, evFrame, closed, fixed, sameEs, wit, Option.isSome_some, St.with, wantedD, Array.size, te, einl, inls, efr]
      exact ⟨⟨n + 1, by omega, by omega⟩, rfl, by dsimp only; omega⟩
  · have q : (patE p != 0) = true := by simpa using a
    unfold encPat at *
    simp (maxSteps := 1000000) (implicitDefEqProofs := false) only [Try.ntmps85, Try.results85, efc85, fc85, k1, a, q, ss, sd, evOp, evPlain, evVal, evMem, St.get, sliceOf, arrayOf, fieldsOf, normOf, norm, look, evVar, evFieldAddr, nameOf, St.alloc, St.drop, killOb, part, splice, depth, resultsV, ↓reduceIte, Nat.reduceBEq, Nat.reduceAdd, Nat.reduceSub, Nat.reduceMul, Nat.reduceEqDiff, Nat.reduceLeDiff, Nat.reduceLT, effOf, effMem, effVar, effLit, effMake, effApp, lend, evLit, evNil, freeze, evField, evIndexT, orNil, evSlice, placeOf, evMap, mapOf, keyOk, evFrame, closed, fixed, sameEs, wit, Option.isSome_some, St.with, wantedD, Array.size, te, einl, inls, efr]
end Go.AM.D
