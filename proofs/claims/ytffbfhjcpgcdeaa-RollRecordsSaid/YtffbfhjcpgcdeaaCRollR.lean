import Derived.Test.YtffbfhjcpgcdeaaCRollQ
set_option linter.unusedVariables false
set_option linter.unusedSimpArgs false
set_option maxRecDepth 20000

namespace Go.AM.C
open Go Go.Proofs

def bestR (xs : List Run) (l : List Art) : List (Int × Int) × Int × Int := if errM xs l = 0 then (bestPs (expand xs) l, at0 (valsW (expand xs) l (expand xs).length) (expand xs).length, 0) else ([], 0, errM xs l)
def encBest (x : List (Int × Int) × Int × Int) : V := .tup [.sl true (x.1.map encPc), .int .i64 x.2.1, .int .i64 x.2.2]

set_option maxHeartbeats 8000000 in
theorem c29 (xs : List Run) (l : List Art) (hx : xs.length ≤ 100000) (hl : l.length ≤ 100000) : (orcω E X0).call 29 [.sl false (xs.map encRun), .sl false (l.map encArt)] = some (encBest (bestR xs l)) := by
  refine call_of rfl fn29 rfl ?_
  have k1 := c50 xs l hx hl
  unfold bestR
  by_cases he : errM xs l = 0
  · rw [benchV_eq he] at k1
    rw [if_pos he]
    obtain ⟨e1, e2, e3⟩ := errM_zero he
    have hN := err_len he
    have k2 := c55 xs l e3 hN
    have g4 := offs_len (expand xs) l 0
    have hbl := (bestPs_ok (ms := expand xs) e3).2.2
    have vl := vals_len (expand xs) l (expand xs).length
    have ll := last_len (expand xs) l (expand xs).length
    unfold benchA at k2
    simp (maxSteps := 1000000) (implicitDefEqProofs := false) only [Try.ntmps29, Try.results29, efc29, fc29, k1, k2, encBest, bne_self_eq_false, ss, sd, zH, qG, zF, zG, St.get, qE, qF, qB, zC, norm, look, zE, qA, qI, St.alloc, St.drop, zA, part, zB, depth, qD, ↓reduceIte, Nat.reduceBEq, Nat.reduceAdd, Nat.reduceSub, Nat.reduceMul, Nat.reduceEqDiff, Nat.reduceLeDiff, Nat.reduceLT, qJ, qK, qL, qM, qN, qO, qP, qQ, qR, zI, qS, qC, qT, evSlice0, qV, qW, qX, qY, qZ, zJ, zK, zL, wit, Option.isSome_some, qH, xJ, evPre, St.with, zD, Array.size, evLitX, evAppX, evCold, nameT, te, einl, inls, efr]
    generalize hr : loopAt _ _ _ _ _ _ = r; revert r
    refine loop_inv (ι := { s : List (Int × Int) × Nat × Nat // walkF l (lastW (expand xs) l (expand xs).length) (expand xs).length (expand xs).length = s.1 ++ walkF l (lastW (expand xs) l (expand xs).length) s.2.2 s.2.1 ∧ s.2.1 ≤ s.2.2 ∧ s.2.1 ≤ (expand xs).length ∧ s.1.length + s.2.1 ≤ (expand xs).length })
      (fun s => [(11, .own 11 0 s.1.1.length), (12, .int .i64 s.1.2.1)]) (fun s => [(7, { es := 3, flat := true, t := false, app := false, elems := [.agg [.sl false (xs.map encRun), .int .i64 ((expand xs).length : Nat), .sl true (offs (expand xs) 0 l)]] }), (11, { es := 2, flat := true, t := true, app := true, elems := s.1.1.map encPc })]) (fun s => s.1.2.1)
      ⟨([], (expand xs).length, (expand xs).length), by simp, by simp, by simp, by simp⟩ (by simp (maxSteps := 1000000) (implicitDefEqProofs := false) only [ss, sd, zH, qG, zF, zG, St.get, qE, qF, qB, zC, norm, look, zE, qA, qI, St.alloc, St.drop, zA, part, zB, depth, qD, ↓reduceIte, Nat.reduceBEq, Nat.reduceAdd, Nat.reduceSub, Nat.reduceMul, Nat.reduceEqDiff, Nat.reduceLeDiff, Nat.reduceLT, qJ, qK, qL, qM, qN, qO, qP, qQ, qR, zI, qS, qC, qT, evSlice0, qV, qW, qX, qY, qZ, zJ, zK, zL, wit, Option.isSome_some, qH, xJ, evPre, St.with, zD, Array.size, evLitX, evAppX, evCold, nameT, te, einl, inls, efr]) ?_
    rintro ⟨⟨o, n, t⟩, h1, h2, h3, h4⟩
    dsimp only at h1 h2 h3 h4 ⊢
    by_cases hlt : (0 : Int) < (n : Int)
    · have u1 : ((n : Int) < (((expand xs).length + 1 : Nat) : Int)) = True := eq_true (by omega)
      have d1 : (lastW (expand xs) l (expand xs).length)[n]? = some (at0 (lastW (expand xs) l (expand xs).length) n) := at0_get (by omega)
      obtain ⟨t', rfl⟩ : ∃ t', t = t' + 1 := ⟨t - 1, by omega⟩
      have hs := step_at e3 (ms := expand xs) (n := n) (N := (expand xs).length) (by omega) h3
      rw [walkF, if_neg (by omega)] at h1
      by_cases hneg : at0 (lastW (expand xs) l (expand xs).length) n < 0
      · rw [if_pos hneg] at h1
        have w1 : IntKind.i64.wrap ((n : Int) - 1) = ((n - 1 : Nat) : Int) := by rw [wrap_in (by omega)]; omega
        simp (maxSteps := 1000000) (implicitDefEqProofs := false) only [hlt, u1, d1, hneg, w1, ll, vI, List.length_map, List.getElem?_map, Int.natCast_nonneg, Int.toNat_natCast, ss, sd, zH, qG, zF, zG, St.get, qE, qF, qB, zC, norm, look, zE, qA, qI, St.alloc, St.drop, zA, part, zB, depth, qD, ↓reduceIte, Nat.reduceBEq, Nat.reduceAdd, Nat.reduceSub, Nat.reduceMul, Nat.reduceEqDiff, Nat.reduceLeDiff, Nat.reduceLT, qJ, qK, qL, qM, qN, qO, qP, qQ, qR, zI, qS, qC, qT, evSlice0, qV, qW, qX, qY, qZ, zJ, zK, zL, wit, Option.isSome_some, qH, xJ, evPre, St.with, zD, Array.size, evLitX, evAppX, evCold, nameT, te, einl, inls, efr]
        exact ⟨⟨(o, n - 1, t'), h1, by dsimp only; omega, by dsimp only; omega, by dsimp only; omega⟩, rfl, by dsimp only; omega⟩
      · rw [if_neg hneg] at h1
        rcases hs.how with ⟨x, y⟩ | ⟨a, x1, x2, x3, x4, x5⟩
        · dsimp only at x; omega
        · dsimp only at x1 x2 x3
          have hla : lenAt l (at0 (lastW (expand xs) l (expand xs).length) n) = a.len := by unfold lenAt; rw [x3]
          have al := (validA_len e3).2 a (List.mem_of_getElem? x3)
          have h9 := x4
          unfold fitA at h9
          simp only [Bool.and_eq_true, decide_eq_true_eq] at h9
          rw [hla] at h1
          have g3 := offs_get (expand xs) l 0 (at0 (lastW (expand xs) l (expand xs).length) n).toNat
          rw [x3, Option.map_some, Nat.zero_add] at g3
          have w1 : IntKind.i64.wrap ((n : Int) - a.len) = ((n - a.len.toNat : Nat) : Int) := by rw [wrap_in (by omega)]; omega
          rw [show (n : Int) - a.len = ((n - a.len.toNat : Nat) : Int) by omega] at h1
          have hroom : roomy (o.length + 1) 16 = true := by simp [roomy]; omega
          have hbig : o.length + 1 ≤ 4294967296 := by omega
          simp (maxSteps := 1000000) (implicitDefEqProofs := false) only [hlt, u1, d1, hneg, w1, ll, g3, g4, x1, x2, hroom, hbig, vI, encOffer, List.length_map, List.getElem?_map, Int.natCast_nonneg, Int.toNat_natCast, ss, sd, zH, qG, zF, zG, St.get, qE, qF, qB, zC, norm, look, zE, qA, qI, St.alloc, St.drop, zA, part, zB, depth, qD, ↓reduceIte, Nat.reduceBEq, Nat.reduceAdd, Nat.reduceSub, Nat.reduceMul, Nat.reduceEqDiff, Nat.reduceLeDiff, Nat.reduceLT, qJ, qK, qL, qM, qN, qO, qP, qQ, qR, zI, qS, qC, qT, evSlice0, qV, qW, qX, qY, qZ, zJ, zK, zL, wit, Option.isSome_some, qH, xJ, evPre, St.with, zD, Array.size, evLitX, evAppX, evCold, nameT, te, einl, inls, efr]
          exact ⟨⟨(o ++ [(((n - a.len.toNat : Nat) : Int), at0 (lastW (expand xs) l (expand xs).length) n)], n - a.len.toNat, t'), by dsimp only; rw [h1]; simp, by dsimp only; omega, by dsimp only; omega, by dsimp only; rw [List.length_append]; simp; omega⟩,
            by dsimp only; rw [List.map_append, List.length_append]; rfl, by dsimp only; omega⟩
    · obtain rfl : n = 0 := by omega
      rw [walk_zero, List.append_nil] at h1
      have hW : bestPs (expand xs) l = o.reverse := by unfold bestPs; rw [h1]
      rw [hW]
      have k9 := fun b outer => (c56 b 11 outer [(7, { es := 3, flat := true, t := false, app := false, elems := [.agg [.sl false (xs.map encRun), .int .i64 ((expand xs).length : Nat), .sl true (offs (expand xs) 0 l)]] }), (11, { es := 2, flat := true, t := true, app := true, elems := o.map encPc })] o (by omega) true rfl rfl)
      have d1 : (valsW (expand xs) l (expand xs).length)[(expand xs).length]? = some (at0 (valsW (expand xs) l (expand xs).length) (expand xs).length) := at0_get (by omega)
      have u2 : (((expand xs).length : Int) < (((expand xs).length + 1 : Nat) : Int)) = True := eq_true (by omega)
      obtain ⟨sl, k9⟩ := Classical.skolem.1 fun b => Classical.skolem.1 (k9 b)
      simp (maxSteps := 1000000) (implicitDefEqProofs := false) only [Int.lt_irrefl, k9, Try.ntmps29, Try.results29, efc29, fc29, ss, sd, zH, qG, zF, zG, St.get, qE, qF, qB, zC, norm, look, zE, qA, qI, St.alloc, St.drop, zA, part, zB, depth, qD, ↓reduceIte, Nat.reduceBEq, Nat.reduceAdd, Nat.reduceSub, Nat.reduceMul, Nat.reduceEqDiff, Nat.reduceLeDiff, Nat.reduceLT, qJ, qK, qL, qM, qN, qO, qP, qQ, qR, zI, qS, qC, qT, evSlice0, qV, qW, qX, qY, qZ, zJ, zK, zL, wit, Option.isSome_some, qH, xJ, evPre, St.with, zD, Array.size, evLitX, evAppX, evCold, nameT, te, einl, inls, efr]
      rw [evRegion_dynB]
      rotate_left
      · rfl
      simp (maxSteps := 1000000) (implicitDefEqProofs := false) only [d1, u2, vl, vI, List.length_map, List.getElem?_map, Int.natCast_nonneg, Int.toNat_natCast, List.length_reverse, Try.ntmps29, Try.results29, efc29, fc29, ss, sd, zH, qG, zF, zG, St.get, qE, qF, qB, zC, norm, look, zE, qA, qI, St.alloc, St.drop, zA, part, zB, depth, qD, ↓reduceIte, Nat.reduceBEq, Nat.reduceAdd, Nat.reduceSub, Nat.reduceMul, Nat.reduceEqDiff, Nat.reduceLeDiff, Nat.reduceLT, qJ, qK, qL, qM, qN, qO, qP, qQ, qR, zI, qS, qC, qT, evSlice0, qV, qW, qX, qY, qZ, zJ, zK, zL, wit, Option.isSome_some, qH, xJ, evPre, St.with, zD, Array.size, evLitX, evAppX, evCold, nameT, te, einl, inls, efr]
      rw [List.take_of_length_le (by simp)]
  · unfold layV at k1
    rw [if_neg he] at k1 ⊢
    have he' : (errM xs l != 0) = true := by simpa using he
    simp (maxSteps := 1000000) (implicitDefEqProofs := false) only [Try.ntmps29, Try.results29, efc29, fc29, k1, bench0, encBest, he', List.map_nil, ss, sd, zH, qG, zF, zG, St.get, qE, qF, qB, zC, norm, look, zE, qA, qI, St.alloc, St.drop, zA, part, zB, depth, qD, ↓reduceIte, Nat.reduceBEq, Nat.reduceAdd, Nat.reduceSub, Nat.reduceMul, Nat.reduceEqDiff, Nat.reduceLeDiff, Nat.reduceLT, qJ, qK, qL, qM, qN, qO, qP, qQ, qR, zI, qS, qC, qT, evSlice0, qV, qW, qX, qY, qZ, zJ, zK, zL, wit, Option.isSome_some, qH, xJ, evPre, St.with, zD, Array.size, evLitX, evAppX, evCold, nameT, te, einl, inls, efr]

end Go.AM.C

