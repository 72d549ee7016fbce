/-
The choice with a number (the document).
-/
import Derived.Test.YtkacpekakpbalaaEEqs
set_option linter.unusedVariables false
set_option linter.unusedSimpArgs false
set_option maxRecDepth 20000

namespace Go.AM.E
open Go Go.AM Go.Proofs

def digs (n m : Nat) : List Int := (List.range m).map fun i => ((n / 3 ^ i % 3 : Nat) : Int)
theorem digs_succ (n m : Nat) : digs n (m + 1) = digs n m ++ [((n / 3 ^ m % 3 : Nat) : Int)] := by unfold digs; rw [List.range_succ, List.map_append]; rfl
theorem digs_len (n m : Nat) : (digs n m).length = m := by simp [digs]
set_option maxRecDepth 20000 in
set_option maxHeartbeats 8000000 in
theorem c52 (b : Blend) (n : Nat) (hb : Valid b) (hn : n ≤ 1000000) : (orcω E XS).call 52 [encBlend b, .int .i64 (n : Nat)] = some (.agg [.sl true ((digs n b.cs.length).map vI), .sl true ((digs (n / 3 ^ b.cs.length) b.lo.length).map vI)]) := by
  refine call_of rfl fn52 rfl ?_
  obtain ⟨_, ⟨hn1, hn2⟩, hl3, _⟩ := hb
  obtain ⟨tot, cs, lo, hi⟩ := b
  dsimp only at *
  unfold encBlend
  dsimp only
  simp (maxSteps := 1000000) (implicitDefEqProofs := false) only [Try.ntmps52, Try.results52, efc52, fc52, List.length_map, ss, sd, zI, qG, zG, zH, St.get, qE, qF, qB, zD, norm, look, zF, qA, qI, St.alloc, St.drop, zA, part, zC, depth, qD, ↓reduceIte, Nat.reduceBEq, Nat.reduceAdd, Nat.reduceSub, Nat.reduceMul, Nat.reduceEqDiff, Nat.reduceLeDiff, Nat.reduceLT, qJ, qK, qL, qM, qN, qO, qP, qQ, qR, zJ, qS, qC, qT, qU, qV, qW, qX, qY, qZ, zK, fixed, zL, wit, Option.isSome_some, qH, St.with, zE, Array.size, te, einl, inls, efr]
  generalize hr : loopAt _ _ _ _ _ _ = r; revert r
  have w3 : ∀ m : Nat, ((m : Nat) : Int).tmod 3 = ((m % 3 : Nat) : Int) := fun m => by rw [Int.tmod_eq_emod_of_nonneg (by omega)]; omega
  have w4 : ∀ m : Nat, ((m : Nat) : Int).tdiv 3 = ((m / 3 : Nat) : Int) := fun m => by rw [Int.tdiv_eq_ediv_of_nonneg (by omega)]; omega
  have hp : ∀ i, n / 3 ^ (i + 1) = n / 3 ^ i / 3 := fun i => by rw [Nat.pow_succ, ← Nat.div_div_eq_div_mul]
  have hle : ∀ i, n / 3 ^ i ≤ n := fun i => Nat.div_le_self _ _
  have n3 : ¬ (3 : Int) = 0 := by decide
  have dl := digs_len n
  have ds := digs_succ n
  have d0 : digs n 0 = [] := rfl
  generalize hD : digs n = D at *
  have hr1 : ∀ k, ((digs (n / 3 ^ cs.length) k).length = k) := fun k => digs_len _ k
  refine loop_nat cs.length (fun i _ => [(1, .int .i64 ((n / 3 ^ i : Nat) : Int)), (6, .int .i64 (i : Nat))]) (fun i _ => match i with
    | 0 => []
    | i + 1 => [(5, { es := 2, flat := false, t := true, app := false, elems := [.agg [.own 20 0 (i + 1), .emp]] }), (20, grow 1 ((D (i + 1)).map vI))]) (fun _ (_ : Unit) => True) () (by omega) (by simp (maxSteps := 1000000) (implicitDefEqProofs := false) only [Nat.pow_zero, Nat.div_one, Int.natCast_zero, ss, sd, zI, qG, zG, zH, St.get, qE, qF, qB, zD, norm, look, zF, qA, qI, St.alloc, St.drop, zA, part, zC, depth, qD, ↓reduceIte, Nat.reduceBEq, Nat.reduceAdd, Nat.reduceSub, Nat.reduceMul, Nat.reduceEqDiff, Nat.reduceLeDiff, Nat.reduceLT, qJ, qK, qL, qM, qN, qO, qP, qQ, qR, zJ, qS, qC, qT, qU, qV, qW, qX, qY, qZ, zK, fixed, zL, wit, Option.isSome_some, qH, St.with, zE, Array.size, te, einl, inls, efr]) trivial (fun _ _ => ?_) (fun i _ _ a1 a2 a3 => ?_)
  · obtain ⟨N, hN⟩ : ∃ N, cs.length = N + 1 := ⟨cs.length - 1, by omega⟩
    rw [hN]
    dsimp only
    have hl1 := dl (N + 1)
    have hm := hle (N + 1)
    generalize D (N + 1) = D0 at *
    generalize n / 3 ^ (N + 1) = m at *
    have t0 : (D0.map vI).take (N + 1) = D0.map vI := List.take_of_length_le (by simp; omega)
    have w0 : ¬ ((N + 1 : Nat) : Int) < ((N + 1 : Nat) : Int) := by omega
    have l0 : N + 1 ≤ D0.length := by omega
    simp (maxSteps := 1000000) (implicitDefEqProofs := false) only [w0, hN, grow, List.length_map, ss, sd, zI, qG, zG, zH, St.get, qE, qF, qB, zD, norm, look, zF, qA, qI, St.alloc, St.drop, zA, part, zC, depth, qD, ↓reduceIte, Nat.reduceBEq, Nat.reduceAdd, Nat.reduceSub, Nat.reduceMul, Nat.reduceEqDiff, Nat.reduceLeDiff, Nat.reduceLT, qJ, qK, qL, qM, qN, qO, qP, qQ, qR, zJ, qS, qC, qT, qU, qV, qW, qX, qY, qZ, zK, fixed, zL, wit, Option.isSome_some, qH, St.with, zE, Array.size, te, einl, inls, efr]
    generalize hr : loopAt _ _ _ _ _ _ = r; revert r
    have hpm : ∀ i, m / 3 ^ (i + 1) = m / 3 ^ i / 3 := fun i => by rw [Nat.pow_succ, ← Nat.div_div_eq_div_mul]
    have hlem : ∀ i, m / 3 ^ i ≤ m := fun i => Nat.div_le_self _ _
    have dl := digs_len m
    have ds := digs_succ m
    have d0 : digs m 0 = [] := rfl
    generalize digs m = G at *
    refine loop_nat lo.length (fun i _ => [(1, .int .i64 ((m / 3 ^ i : Nat) : Int)), (7, .int .i64 (i : Nat))]) (fun i _ => match i with
      | 0 => []
      | i + 1 => [(5, { es := 2, flat := false, t := true, app := false, elems := [.agg [.own 20 0 (N + 1), .own 36 0 (i + 1)]] }), (36, grow 1 ((G (i + 1)).map vI))]) (fun _ (_ : Unit) => True) () (by omega) (by simp (maxSteps := 1000000) (implicitDefEqProofs := false) only [Nat.pow_zero, Nat.div_one, Int.natCast_zero, ss, sd, zI, qG, zG, zH, St.get, qE, qF, qB, zD, norm, look, zF, qA, qI, St.alloc, St.drop, zA, part, zC, depth, qD, ↓reduceIte, Nat.reduceBEq, Nat.reduceAdd, Nat.reduceSub, Nat.reduceMul, Nat.reduceEqDiff, Nat.reduceLeDiff, Nat.reduceLT, qJ, qK, qL, qM, qN, qO, qP, qQ, qR, zJ, qS, qC, qT, qU, qV, qW, qX, qY, qZ, zK, fixed, zL, wit, Option.isSome_some, qH, St.with, zE, Array.size, te, einl, inls, efr]) trivial (fun _ _ => ?_) (fun i _ _ a1 a2 a3 => ?_)
    · have w1 : ¬ ((lo.length : Nat) : Int) < ((lo.length : Nat) : Int) := by omega
      generalize hM : lo.length = M at *
      cases M with
      | zero =>
        dsimp only
        simp (maxSteps := 1000000) (implicitDefEqProofs := false) only [Int.lt_irrefl, hM, d0, t0, l0, Option.map_some, grow, List.map_nil, List.length_map, Int.natCast_zero, Try.ntmps52, Try.results52, efc52, fc52, ss, sd, zI, qG, zG, zH, St.get, qE, qF, qB, zD, norm, look, zF, qA, qI, St.alloc, St.drop, zA, part, zC, depth, qD, ↓reduceIte, Nat.reduceBEq, Nat.reduceAdd, Nat.reduceSub, Nat.reduceMul, Nat.reduceEqDiff, Nat.reduceLeDiff, Nat.reduceLT, qJ, qK, qL, qM, qN, qO, qP, qQ, qR, zJ, qS, qC, qT, qU, qV, qW, qX, qY, qZ, zK, fixed, zL, wit, Option.isSome_some, qH, St.with, zE, Array.size, te, einl, inls, efr]
      | succ M =>
        have hl2 := dl (M + 1)
        dsimp only
        generalize G (M + 1) = G0 at *
        have t1 : (G0.map vI).take (M + 1) = G0.map vI := List.take_of_length_le (by simp; omega)
        have l1 : M + 1 ≤ G0.length := by omega
        simp (maxSteps := 1000000) (implicitDefEqProofs := false) only [w1, hM, t0, t1, l0, l1, Option.map_some, grow, List.length_map, Try.ntmps52, Try.results52, efc52, fc52, ss, sd, zI, qG, zG, zH, St.get, qE, qF, qB, zD, norm, look, zF, qA, qI, St.alloc, St.drop, zA, part, zC, depth, qD, ↓reduceIte, Nat.reduceBEq, Nat.reduceAdd, Nat.reduceSub, Nat.reduceMul, Nat.reduceEqDiff, Nat.reduceLeDiff, Nat.reduceLT, qJ, qK, qL, qM, qN, qO, qP, qQ, qR, zJ, qS, qC, qT, qU, qV, qW, qX, qY, qZ, zK, fixed, zL, wit, Option.isSome_some, qH, St.with, zE, Array.size, te, einl, inls, efr]
    · have hi := hlem i
      cases i with
      | zero =>
        have e1 : G 1 = [((m / 3 ^ 0 % 3 : Nat) : Int)] := by rw [ds 0, d0]; rfl
        rw [hpm 0]
        generalize m / 3 ^ 0 = m0 at *
        have w3 := w3 m0
        have w4 := w4 m0
        have wr1 : IntKind.i64.wrap ((m0 / 3 : Nat) : Int) = ((m0 / 3 : Nat) : Int) := wrap_in (by omega)
        have wr2 : IntKind.i64.wrap ((m0 % 3 : Nat) : Int) = ((m0 % 3 : Nat) : Int) := wrap_in (by omega)
        have c1 : (0 : Int) < lo.length := by omega
        have c3 : IntKind.i64.wrap ((0 : Int) + 1) = 1 := wrap_in (by omega)
        have r8 : roomy 1 8 = true := rfl
        simp (maxSteps := 1000000) (implicitDefEqProofs := false) only [c1, c3, r8, a2, a3, n3, w3, w4, wr1, wr2, e1, grow, vI, Nat.zero_add, ne_eq, not_false_eq_true, Int.natCast_zero, Int.natCast_one, Int.natCast_nonneg, Int.toNat_natCast, List.getElem?_map, List.length_map, ss, sd, zI, qG, zG, zH, St.get, qE, qF, qB, zD, norm, look, zF, qA, qI, St.alloc, St.drop, zA, part, zC, depth, qD, ↓reduceIte, Nat.reduceBEq, Nat.reduceAdd, Nat.reduceSub, Nat.reduceMul, Nat.reduceEqDiff, Nat.reduceLeDiff, Nat.reduceLT, qJ, qK, qL, qM, qN, qO, qP, qQ, qR, zJ, qS, qC, qT, qU, qV, qW, qX, qY, qZ, zK, fixed, zL, wit, Option.isSome_some, qH, St.with, zE, Array.size, te, einl, inls, efr]
        (first | exact ⟨(), trivial⟩ | refine ⟨(), ?_, trivial⟩ | skip)
      | succ i =>
        have hl2 := dl (i + 1)
        have s1 := ds (i + 1)
        rw [hpm (i + 1)]
        dsimp only
        generalize G (i + 1 + 1) = D1 at *
        generalize G (i + 1) = G0 at *
        subst s1
        generalize m / 3 ^ (i + 1) = m0 at *
        have w3 := w3 m0
        have w4 := w4 m0
        have wr1 : IntKind.i64.wrap ((m0 / 3 : Nat) : Int) = ((m0 / 3 : Nat) : Int) := wrap_in (by omega)
        have wr2 : IntKind.i64.wrap ((m0 % 3 : Nat) : Int) = ((m0 % 3 : Nat) : Int) := wrap_in (by omega)
        have ro : roomy (i + 1 + 1) 8 = true := by simp [roomy]; omega
        have bi : i + 1 + 1 ≤ 4294967296 := by omega
        have z1 : sized 1 (G0.map vI) = true := sized_vI _
        have e3 : G0.map vI ++ [.int .i64 ((m0 % 3 : Nat) : Int)] = (G0 ++ [((m0 % 3 : Nat) : Int)]).map vI := by simp [vI]
        simp (maxSteps := 1000000) (implicitDefEqProofs := false) only [a1, a2, a3, n3, w3, w4, wr1, wr2, hl2, ro, bi, z1, e3, grow, ne_eq, not_false_eq_true, Int.natCast_zero, Int.natCast_nonneg, Int.toNat_natCast, List.getElem?_map, List.length_map, ss, sd, zI, qG, zG, zH, St.get, qE, qF, qB, zD, norm, look, zF, qA, qI, St.alloc, St.drop, zA, part, zC, depth, qD, ↓reduceIte, Nat.reduceBEq, Nat.reduceAdd, Nat.reduceSub, Nat.reduceMul, Nat.reduceEqDiff, Nat.reduceLeDiff, Nat.reduceLT, qJ, qK, qL, qM, qN, qO, qP, qQ, qR, zJ, qS, qC, qT, qU, qV, qW, qX, qY, qZ, zK, fixed, zL, wit, Option.isSome_some, qH, St.with, zE, Array.size, te, einl, inls, efr]
        (first | exact ⟨(), trivial⟩ | refine ⟨(), ?_, trivial⟩ | skip)
  · have hi := hle i
    cases i with
    | zero =>
      have e1 : D 1 = [((n / 3 ^ 0 % 3 : Nat) : Int)] := by rw [ds 0, d0]; rfl
      rw [hp 0]
      generalize n / 3 ^ 0 = m0 at *
      have w3 := w3 m0
      have w4 := w4 m0
      have wr1 : IntKind.i64.wrap ((m0 / 3 : Nat) : Int) = ((m0 / 3 : Nat) : Int) := wrap_in (by omega)
      have wr2 : IntKind.i64.wrap ((m0 % 3 : Nat) : Int) = ((m0 % 3 : Nat) : Int) := wrap_in (by omega)
      have c1 : (0 : Int) < cs.length := by omega
      have c3 : IntKind.i64.wrap ((0 : Int) + 1) = 1 := wrap_in (by omega)
      have r8 : roomy 1 8 = true := rfl
      simp (maxSteps := 1000000) (implicitDefEqProofs := false) only [c1, c3, r8, a2, a3, n3, w3, w4, wr1, wr2, e1, grow, vI, Nat.zero_add, ne_eq, not_false_eq_true, Int.natCast_zero, Int.natCast_one, Int.natCast_nonneg, Int.toNat_natCast, List.getElem?_map, List.length_map, ss, sd, zI, qG, zG, zH, St.get, qE, qF, qB, zD, norm, look, zF, qA, qI, St.alloc, St.drop, zA, part, zC, depth, qD, ↓reduceIte, Nat.reduceBEq, Nat.reduceAdd, Nat.reduceSub, Nat.reduceMul, Nat.reduceEqDiff, Nat.reduceLeDiff, Nat.reduceLT, qJ, qK, qL, qM, qN, qO, qP, qQ, qR, zJ, qS, qC, qT, qU, qV, qW, qX, qY, qZ, zK, fixed, zL, wit, Option.isSome_some, qH, St.with, zE, Array.size, te, einl, inls, efr]
      (first | exact ⟨(), trivial⟩ | refine ⟨(), ?_, trivial⟩ | skip)
    | succ i =>
      have hl1 := dl (i + 1)
      have s1 := ds (i + 1)
      rw [hp (i + 1)]
      dsimp only
      generalize D (i + 1 + 1) = D1 at *
      generalize D (i + 1) = D0 at *
      subst s1
      generalize n / 3 ^ (i + 1) = m0 at *
      have w3 := w3 m0
      have w4 := w4 m0
      have wr1 : IntKind.i64.wrap ((m0 / 3 : Nat) : Int) = ((m0 / 3 : Nat) : Int) := wrap_in (by omega)
      have wr2 : IntKind.i64.wrap ((m0 % 3 : Nat) : Int) = ((m0 % 3 : Nat) : Int) := wrap_in (by omega)
      have ro : roomy (i + 1 + 1) 8 = true := by simp [roomy]; omega
      have bi : i + 1 + 1 ≤ 4294967296 := by omega
      have z1 : sized 1 (D0.map vI) = true := sized_vI _
      have e3 : D0.map vI ++ [.int .i64 ((m0 % 3 : Nat) : Int)] = (D0 ++ [((m0 % 3 : Nat) : Int)]).map vI := by simp [vI]
      simp (maxSteps := 1000000) (implicitDefEqProofs := false) only [a1, a2, a3, n3, w3, w4, wr1, wr2, hl1, ro, bi, z1, e3, grow, ne_eq, not_false_eq_true, Int.natCast_zero, Int.natCast_nonneg, Int.toNat_natCast, List.getElem?_map, List.length_map, ss, sd, zI, qG, zG, zH, St.get, qE, qF, qB, zD, norm, look, zF, qA, qI, St.alloc, St.drop, zA, part, zC, depth, qD, ↓reduceIte, Nat.reduceBEq, Nat.reduceAdd, Nat.reduceSub, Nat.reduceMul, Nat.reduceEqDiff, Nat.reduceLeDiff, Nat.reduceLT, qJ, qK, qL, qM, qN, qO, qP, qQ, qR, zJ, qS, qC, qT, qU, qV, qW, qX, qY, qZ, zK, fixed, zL, wit, Option.isSome_some, qH, St.with, zE, Array.size, te, einl, inls, efr]
      (first | exact ⟨(), trivial⟩ | refine ⟨(), ?_, trivial⟩ | skip)
end Go.AM.E

