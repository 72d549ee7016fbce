/-
Greedy cuttings: the document's, and the law.
-/
import Derived.Test.YtffbfhjcpgcdeaaCGreed
import Derived.Test.YtffbfhjcpgcdeaaCRollS
import Derived.Test.YtffbfhjcpgcdeaaAmNat
set_option linter.unusedVariables false
set_option linter.unusedSimpArgs false
set_option maxRecDepth 20000

namespace Go.AM.C
open Go Go.AM Go.Proofs

theorem pickG_succ (ms : List Mk) (l : List Art) (x : Int) (k : Nat) : pickG ms l x (k + 1) = if fitsM ms l x k = true ∧ (pickG ms l x k < 0 ∨ priceAt l (pickG ms l x k) < priceAt l k) then (k : Int) else pickG ms l x k := rfl

theorem okT45 : okCode (Try.f45.body.getD .skip) = true := by decide +kernel

set_option maxHeartbeats 16000000 in
theorem c45 (xs : List Run) (l : List Art) (hx : xs.length ≤ 100000) (hl : l.length ≤ 100000) : (orcω E X0).call 45 [.sl false (xs.map encRun), .sl false (l.map encArt)] = some (encGr (greedyR xs l)) := by
  refine call_of rfl fn45 rfl ?_
  have hok := okT45
  simp only [Try.f45, Option.getD_some, okCode, Bool.and_eq_true, Bool.and_true, Bool.true_and] at hok
  have k1 := c52 xs l hx hl
  unfold marksM at k1
  unfold greedyR
  by_cases he : errM xs l = 0
  · rw [if_pos he] at k1 ⊢
    simp only [encMks] at k1
    obtain ⟨e1, e2, e3⟩ := errM_zero he
    have hN := err_len he
    have h5 := (validA_len e3).1
    have hst := fun (x : Nat) (hx : x < (expand xs).length) => greedy_step e3 (l := l) hx
    simp (maxSteps := 1000000) (implicitDefEqProofs := false) only [Try.ntmps45, Try.results45, efc45, fc45, k1, bne_self_eq_false, encGr, ss, sd, zH, qG, zF, zG, St.get, qE, qF, qB, zC, norm, look, zE, qA, qI, St.alloc, St.drop, zA, part, zB, depth, qD, ↓reduceIte, Nat.reduceBEq, Nat.reduceAdd, Nat.reduceSub, Nat.reduceMul, Nat.reduceEqDiff, Nat.reduceLeDiff, Nat.reduceLT, qJ, qK, qL, qM, qN, qO, qP, qQ, qR, zI, qS, qC, qT, qU, qV, qW, qX, qY, qZ, zJ, zK, zL, wit, Option.isSome_some, qH, St.with, zD, Array.size, te, einl, inls, efr]
    generalize hr : loopAt _ _ _ _ _ _ = r; revert r
    refine loop_inv (ι := { p : Nat × List (Int × Int) // p.1 ≤ (expand xs).length ∧ p.2 ++ greedyL (expand xs) l ((expand xs).length + 1) p.1 = greedyW (expand xs) l }) (fun p => [(8, .own 8 0 p.1.2.length), (9, .int .i64 (p.1.1 : Nat))])
      (fun p => [(8, { es := 2, flat := true, t := true, app := true, elems := p.1.2.map encPc })])
      (fun p => (expand xs).length - p.1.1) ⟨(0, []), Nat.zero_le _, rfl⟩ (by simp (maxSteps := 1000000) (implicitDefEqProofs := false) only [List.length_nil, List.map_nil, Int.natCast_zero, ss, sd, zH, qG, zF, zG, St.get, qE, qF, qB, zC, norm, look, zE, qA, qI, St.alloc, St.drop, zA, part, zB, depth, qD, ↓reduceIte, Nat.reduceBEq, Nat.reduceAdd, Nat.reduceSub, Nat.reduceMul, Nat.reduceEqDiff, Nat.reduceLeDiff, Nat.reduceLT, qJ, qK, qL, qM, qN, qO, qP, qQ, qR, zI, qS, qC, qT, qU, qV, qW, qX, qY, qZ, zJ, zK, zL, wit, Option.isSome_some, qH, St.with, zD, Array.size, te, einl, inls, efr]) ?_
    rintro ⟨⟨x, o⟩, hxN, ho⟩
    dsimp only at hxN ho ⊢
    have hol := greedy_sofar ho
    by_cases hlt : x < (expand xs).length
    · have hlt' : ((x : Int) < ((expand xs).length : Nat)) = True := eq_true (by omega)
      have k2 := fun k => c53 (expand xs) l (x : Nat) k (by omega) e3
      have hs := hst x hlt
      simp (maxSteps := 1000000) (implicitDefEqProofs := false) only [hlt', List.length_map, ss, sd, zH, qG, zF, zG, St.get, qE, qF, qB, zC, norm, look, zE, qA, qI, St.alloc, St.drop, zA, part, zB, depth, qD, ↓reduceIte, Nat.reduceBEq, Nat.reduceAdd, Nat.reduceSub, Nat.reduceMul, Nat.reduceEqDiff, Nat.reduceLeDiff, Nat.reduceLT, qJ, qK, qL, qM, qN, qO, qP, qQ, qR, zI, qS, qC, qT, qU, qV, qW, qX, qY, qZ, zJ, zK, zL, wit, Option.isSome_some, qH, St.with, zD, Array.size, te, einl, inls, efr]
      generalize hr : loopAt _ _ _ _ _ _ = r; revert r
      refine loop_nat l.length (fun k _ => [(10, .int .i64 (pickG (expand xs) l x k)), (11, .int .i64 (k : Nat))]) (fun _ _ => []) (fun _ (_ : Unit) => True) () (by omega) (by simp (maxSteps := 1000000) (implicitDefEqProofs := false) only [pickG, Int.natCast_zero, ss, sd, zH, qG, zF, zG, St.get, qE, qF, qB, zC, norm, look, zE, qA, qI, St.alloc, St.drop, zA, part, zB, depth, qD, ↓reduceIte, Nat.reduceBEq, Nat.reduceAdd, Nat.reduceSub, Nat.reduceMul, Nat.reduceEqDiff, Nat.reduceLeDiff, Nat.reduceLT, qJ, qK, qL, qM, qN, qO, qP, qQ, qR, zI, qS, qC, qT, qU, qV, qW, qX, qY, qZ, zJ, zK, zL, wit, Option.isSome_some, qH, St.with, zD, Array.size, te, einl, inls, efr]) trivial (fun _ _ => ?_) (fun k _ _ a1 a2 a3 => ?_)
      · have hpi := pickG_in (expand xs) l x l.length
        have hpf := pickG_fits (expand xs) l x l.length
        generalize pickG (expand xs) l x l.length = b at *
        by_cases hb : b < 0
        · rw [if_pos hb] at hs
          have w1 : IntKind.i64.wrap ((x : Int) + 1) = ((x + 1 : Nat) : Int) := by rw [wrap_in (by omega)]; omega
          simp (maxSteps := 1000000) (implicitDefEqProofs := false) only [Int.lt_irrefl, List.length_map, hb, w1, ss, sd, zH, qG, zF, zG, St.get, qE, qF, qB, zC, norm, look, zE, qA, qI, St.alloc, St.drop, zA, part, zB, depth, qD, ↓reduceIte, Nat.reduceBEq, Nat.reduceAdd, Nat.reduceSub, Nat.reduceMul, Nat.reduceEqDiff, Nat.reduceLeDiff, Nat.reduceLT, qJ, qK, qL, qM, qN, qO, qP, qQ, qR, zI, qS, qC, qT, qU, qV, qW, qX, qY, qZ, zJ, zK, zL, wit, Option.isSome_some, qH, St.with, zD, Array.size, te, einl, inls, efr]
          exact ⟨⟨(x + 1, o), by dsimp only; omega, by dsimp only; rw [← hs]; exact ho⟩, rfl, by dsimp only; omega⟩
        · rw [if_neg hb] at hs
          obtain ⟨a, f1, f2, f3, f4, f5, f6, f7, _⟩ := fits_in (hpf (by omega))
          have al := ((validA_len e3).2 a (List.mem_of_getElem? f1)).1
          rw [f6] at hs
          have i1 : (0 ≤ b) = True := eq_true (by omega)
          have i2 : (b < (l.length : Int)) = True := eq_true (by omega)
          have w1 : IntKind.i64.wrap ((x : Int) + a.len) = ((x + a.len.toNat : Nat) : Int) := by rw [wrap_in (by omega)]; omega
          have hroom2 : roomy (o.length + 1) 16 = true := by simp [roomy]; omega
          have hbig2 : o.length + 1 ≤ 4294967296 := by omega
          simp (maxSteps := 1000000) (implicitDefEqProofs := false) only [Int.lt_irrefl, List.length_map, hb, i1, i2, f1, w1, hroom2, hbig2, encArt, List.getElem?_map, ss, sd, zH, qG, zF, zG, St.get, qE, qF, qB, zC, norm, look, zE, qA, qI, St.alloc, St.drop, zA, part, zB, depth, qD, ↓reduceIte, Nat.reduceBEq, Nat.reduceAdd, Nat.reduceSub, Nat.reduceMul, Nat.reduceEqDiff, Nat.reduceLeDiff, Nat.reduceLT, qJ, qK, qL, qM, qN, qO, qP, qQ, qR, zI, qS, qC, qT, qU, qV, qW, qX, qY, qZ, zJ, zK, zL, wit, Option.isSome_some, qH, St.with, zD, Array.size, te, einl, inls, efr]
          refine ⟨⟨(x + a.len.toNat, o ++ [((x : Int), b)]), by dsimp only; omega, by dsimp only; rw [List.append_assoc, List.cons_append, List.nil_append, ← hs]; exact ho⟩, ?_, by dsimp only; omega⟩
          rw [List.map_append, List.length_append]
          rfl
      · have g1 : l[k]? = some l[k] := List.getElem?_eq_getElem a1
        have hps := pickG_succ (expand xs) l x k
        have hpi := pickG_in (expand xs) l x k
        have hpk : priceAt l (k : Int) = l[k].price := by unfold priceAt; rw [Int.toNat_natCast, g1]
        rw [hpk] at hps
        have k3 := k2 (k : Nat)
        generalize l[k] = a at *
        generalize hB : pickG (expand xs) l x k = B at *
        cases c2 : fitsM (expand xs) l x k with
        | false =>
          rw [c2] at hps k3
          rw [if_neg (fun h => by cases h.1)] at hps
          simp (maxSteps := 1000000) (implicitDefEqProofs := false) only [a2, a3, k3, List.length_map, evRegion_st hok, ss, sd, zH, qG, zF, zG, St.get, qE, qF, qB, zC, norm, look, zE, qA, qI, St.alloc, St.drop, zA, part, zB, depth, qD, ↓reduceIte, Nat.reduceBEq, Nat.reduceAdd, Nat.reduceSub, Nat.reduceMul, Nat.reduceEqDiff, Nat.reduceLeDiff, Nat.reduceLT, qJ, qK, qL, qM, qN, qO, qP, qQ, qR, zI, qS, qC, qT, qU, qV, qW, qX, qY, qZ, zJ, zK, zL, wit, Option.isSome_some, qH, St.with, zD, Array.size, te, einl, inls, efr]
          exact ⟨(), by rw [hps]⟩
        | true =>
          rw [c2] at hps k3
          by_cases c3 : B < 0
          · rw [if_pos ⟨rfl, .inl c3⟩] at hps
            simp (maxSteps := 1000000) (implicitDefEqProofs := false) only [a2, a3, k3, c3, List.length_map, evRegion_st hok, ss, sd, zH, qG, zF, zG, St.get, qE, qF, qB, zC, norm, look, zE, qA, qI, St.alloc, St.drop, zA, part, zB, depth, qD, ↓reduceIte, Nat.reduceBEq, Nat.reduceAdd, Nat.reduceSub, Nat.reduceMul, Nat.reduceEqDiff, Nat.reduceLeDiff, Nat.reduceLT, qJ, qK, qL, qM, qN, qO, qP, qQ, qR, zI, qS, qC, qT, qU, qV, qW, qX, qY, qZ, zJ, zK, zL, wit, Option.isSome_some, qH, St.with, zD, Array.size, te, einl, inls, efr]
            exact ⟨(), by rw [hps]⟩
          · have d0 : B.toNat < l.length := by omega
            have d1 : l[B.toNat]? = some l[B.toNat] := List.getElem?_eq_getElem d0
            have d5 : priceAt l B = l[B.toNat].price := by unfold priceAt; rw [d1]
            generalize l[B.toNat] = a' at *
            have d3 : 0 ≤ B := by omega
            have d4 : B < (l.length : Int) := by omega
            rw [d5] at hps
            by_cases c4 : a'.price < a.price
            · rw [if_pos ⟨rfl, .inr c4⟩] at hps
              simp (maxSteps := 1000000) (implicitDefEqProofs := false) only [a2, a3, k3, c3, c4, d1, d3, d4, g1, encArt, Int.natCast_nonneg, Int.toNat_natCast, List.getElem?_map, List.length_map, evRegion_st hok, ss, sd, zH, qG, zF, zG, St.get, qE, qF, qB, zC, norm, look, zE, qA, qI, St.alloc, St.drop, zA, part, zB, depth, qD, ↓reduceIte, Nat.reduceBEq, Nat.reduceAdd, Nat.reduceSub, Nat.reduceMul, Nat.reduceEqDiff, Nat.reduceLeDiff, Nat.reduceLT, qJ, qK, qL, qM, qN, qO, qP, qQ, qR, zI, qS, qC, qT, qU, qV, qW, qX, qY, qZ, zJ, zK, zL, wit, Option.isSome_some, qH, St.with, zD, Array.size, te, einl, inls, efr]
              exact ⟨(), by rw [hps]⟩
            · rw [if_neg (fun h => h.2.elim c3 c4)] at hps
              simp (maxSteps := 1000000) (implicitDefEqProofs := false) only [a2, a3, k3, c3, c4, d1, d3, d4, g1, encArt, Int.natCast_nonneg, Int.toNat_natCast, List.getElem?_map, List.length_map, evRegion_st hok, ss, sd, zH, qG, zF, zG, St.get, qE, qF, qB, zC, norm, look, zE, qA, qI, St.alloc, St.drop, zA, part, zB, depth, qD, ↓reduceIte, Nat.reduceBEq, Nat.reduceAdd, Nat.reduceSub, Nat.reduceMul, Nat.reduceEqDiff, Nat.reduceLeDiff, Nat.reduceLT, qJ, qK, qL, qM, qN, qO, qP, qQ, qR, zI, qS, qC, qT, qU, qV, qW, qX, qY, qZ, zJ, zK, zL, wit, Option.isSome_some, qH, St.with, zD, Array.size, te, einl, inls, efr]
              exact ⟨(), by rw [hps]⟩
    · have hxe : x = (expand xs).length := by omega
      subst hxe
      rw [greedy_end (Nat.lt_irrefl _), List.append_nil] at ho
      subst ho
      have tk : ((greedyW (expand xs) l).map encPc).take (greedyW (expand xs) l).length = (greedyW (expand xs) l).map encPc := List.take_of_length_le (by simp)
      simp (maxSteps := 1000000) (implicitDefEqProofs := false) only [Int.lt_irrefl, tk, List.length_map, Try.ntmps45, Try.results45, efc45, fc45, ss, sd, zH, qG, zF, zG, St.get, qE, qF, qB, zC, norm, look, zE, qA, qI, St.alloc, St.drop, zA, part, zB, depth, qD, ↓reduceIte, Nat.reduceBEq, Nat.reduceAdd, Nat.reduceSub, Nat.reduceMul, Nat.reduceEqDiff, Nat.reduceLeDiff, Nat.reduceLT, qJ, qK, qL, qM, qN, qO, qP, qQ, qR, zI, qS, qC, qT, qU, qV, qW, qX, qY, qZ, zJ, zK, zL, wit, Option.isSome_some, qH, St.with, zD, Array.size, te, einl, inls, efr]
  · rw [if_neg he] at k1 ⊢
    simp only [encMks] at k1
    have he' : (errM xs l != 0) = true := by simpa using he
    simp (maxSteps := 1000000) (implicitDefEqProofs := false) only [Try.ntmps45, Try.results45, efc45, fc45, k1, he', encGr, List.map_nil, ss, sd, zH, qG, zF, zG, St.get, qE, qF, qB, zC, norm, look, zE, qA, qI, St.alloc, St.drop, zA, part, zB, depth, qD, ↓reduceIte, Nat.reduceBEq, Nat.reduceAdd, Nat.reduceSub, Nat.reduceMul, Nat.reduceEqDiff, Nat.reduceLeDiff, Nat.reduceLT, qJ, qK, qL, qM, qN, qO, qP, qQ, qR, zI, qS, qC, qT, qU, qV, qW, qX, qY, qZ, zJ, zK, zL, wit, Option.isSome_some, qH, St.with, zD, Array.size, te, einl, inls, efr]

theorem okT14 : okCode (Try.f14.body.getD .skip) = true := by decide +kernel

set_option maxHeartbeats 8000000 in
theorem c14 (xs : List Run) (l : List Art) : (orcω E X0).call 14 [.sl false (xs.map encRun), .sl false (l.map encArt)] = some (.bool true) := by
  refine call_of rfl fn14 rfl ?_
  have hok := okT14
  simp only [Try.f14, Option.getD_some, okCode, Bool.and_eq_true, Bool.and_true, Bool.true_and] at hok
  have k1 := c16 xs l false []
  rw [List.length_nil] at k1
  cases hlong : long xs l 0 with
  | true =>
    rw [hlong] at k1
    simp (maxSteps := 1000000) (implicitDefEqProofs := false) only [Try.ntmps14, Try.results14, efc14, fc14, k1, c17, ss, sd, zH, qG, zF, zG, St.get, qE, qF, qB, zC, norm, look, zE, qA, qI, St.alloc, St.drop, zA, part, zB, depth, qD, ↓reduceIte, Nat.reduceBEq, Nat.reduceAdd, Nat.reduceSub, Nat.reduceMul, Nat.reduceEqDiff, Nat.reduceLeDiff, Nat.reduceLT, qJ, qK, qL, qM, qN, qO, qP, qQ, qR, zI, qS, qC, qT, qU, qV, qW, qX, qY, qZ, zJ, zK, zL, wit, Option.isSome_some, qH, St.with, zD, Array.size, te, einl, inls, efr]
  | false =>
    rw [hlong] at k1
    unfold long at hlong
    simp only [Bool.or_eq_false_iff, decide_eq_false_iff_not] at hlong
    have k2 := c44 xs l (by omega) (by omega)
    have k3 := c45 xs l (by omega) (by omega)
    unfold greedyR at k2 k3
    by_cases he : errM xs l = 0
    · rw [if_pos he] at k2 k3
      simp only [encGr] at k2 k3
      obtain ⟨e1, e2, e3⟩ := errM_zero he
      have hN := err_len he
      have gl := greedy_len (ms := expand xs) (l := l) ((expand xs).length + 1) 0
      have gc : checkL (expand xs) l 0 (greedyW (expand xs) l) = 0 := greedy_check e3 _ 0 0 (Int.le_refl _)
      have gl' : (greedyW (expand xs) l).length ≤ 301 := by unfold greedyW; omega
      have k4 := c33 xs l (greedyW (expand xs) l) (by omega) (by omega) (by omega)
      have k5 := c29 xs l (by omega) (by omega)
      have gv : valueR xs l (greedyW (expand xs) l) = (sumP l (greedyW (expand xs) l), 0) := by
        unfold valueR accE
        rw [if_pos he, if_pos gc]
      have gm := vals_most e3 hN gc
      rw [gv] at k4
      unfold bestR at k5
      rw [if_pos he] at k5
      simp only [encLen, encBest] at k4 k5
      generalize at0 (valsW (expand xs) l (expand xs).length) (expand xs).length = vm at *
      generalize bestPs (expand xs) l = bp at *
      generalize greedyW (expand xs) l = gw at *
      have u1 : (sumP l gw ≤ vm) = True := eq_true gm
      simp (maxSteps := 1000000) (implicitDefEqProofs := false) only [Try.ntmps14, Try.results14, efc14, fc14, k1, k2, k3, bne_self_eq_false, List.length_map, ss, sd, zH, qG, zF, zG, St.get, qE, qF, qB, zC, norm, look, zE, qA, qI, St.alloc, St.drop, zA, part, zB, depth, qD, ↓reduceIte, Nat.reduceBEq, Nat.reduceAdd, Nat.reduceSub, Nat.reduceMul, Nat.reduceEqDiff, Nat.reduceLeDiff, Nat.reduceLT, qJ, qK, qL, qM, qN, qO, qP, qQ, qR, zI, qS, qC, qT, qU, qV, qW, qX, qY, qZ, zJ, zK, zL, wit, Option.isSome_some, qH, St.with, zD, Array.size, te, einl, inls, efr]
      generalize hr : loopAt _ _ _ _ _ _ = r; revert r
      refine loop_list gw (fun pre _ => [(9, .int .i64 pre.length)]) (fun _ _ => []) (fun _ (_ : Unit) => True) () (by omega) (by simp (maxSteps := 1000000) (implicitDefEqProofs := false) only [ss, sd, zH, qG, zF, zG, St.get, qE, qF, qB, zC, norm, look, zE, qA, qI, St.alloc, St.drop, zA, part, zB, depth, qD, ↓reduceIte, Nat.reduceBEq, Nat.reduceAdd, Nat.reduceSub, Nat.reduceMul, Nat.reduceEqDiff, Nat.reduceLeDiff, Nat.reduceLT, qJ, qK, qL, qM, qN, qO, qP, qQ, qR, zI, qS, qC, qT, qU, qV, qW, qX, qY, qZ, zJ, zK, zL, wit, Option.isSome_some, qH, St.with, zD, Array.size, te, einl, inls, efr]) trivial (fun _ _ => ?_) (fun pre p post _ hp _ g1 g2 g3 g4 => ?_)
      · simp (maxSteps := 1000000) (implicitDefEqProofs := false) only [Int.lt_irrefl, k4, k5, u1, c17, bne_self_eq_false, beq_self_eq_true, List.length_map, Try.ntmps14, Try.results14, efc14, fc14, ss, sd, zH, qG, zF, zG, St.get, qE, qF, qB, zC, norm, look, zE, qA, qI, St.alloc, St.drop, zA, part, zB, depth, qD, ↓reduceIte, Nat.reduceBEq, Nat.reduceAdd, Nat.reduceSub, Nat.reduceMul, Nat.reduceEqDiff, Nat.reduceLeDiff, Nat.reduceLT, qJ, qK, qL, qM, qN, qO, qP, qQ, qR, zI, qS, qC, qT, qU, qV, qW, qX, qY, qZ, zJ, zK, zL, wit, Option.isSome_some, qH, St.with, zD, Array.size, te, einl, inls, efr]
      · simp (maxSteps := 1000000) (implicitDefEqProofs := false) only [g1, g2, g3, g4, encPc, bne_self_eq_false, beq_self_eq_true, Bool.true_and, Bool.not_true, Int.natCast_nonneg, Int.toNat_natCast, List.getElem?_map, List.length_map, evRegion_st hok, bne, Bool.not_false, ss, sd, zH, qG, zF, zG, St.get, qE, qF, qB, zC, norm, look, zE, qA, qI, St.alloc, St.drop, zA, part, zB, depth, qD, ↓reduceIte, Nat.reduceBEq, Nat.reduceAdd, Nat.reduceSub, Nat.reduceMul, Nat.reduceEqDiff, Nat.reduceLeDiff, Nat.reduceLT, qJ, qK, qL, qM, qN, qO, qP, qQ, qR, zI, qS, qC, qT, qU, qV, qW, qX, qY, qZ, zJ, zK, zL, wit, Option.isSome_some, qH, St.with, zD, Array.size, te, einl, inls, efr]
        (first | exact ⟨(), trivial⟩ | refine ⟨(), ?_, trivial⟩ | skip)
    · rw [if_neg he] at k2 k3
      simp only [encGr, List.map_nil] at k2 k3
      have he' : (errM xs l != 0) = true := by simpa using he
      have z0 : (((0 : Nat) : Int) != ((0 : Nat) : Int)) = false := rfl
      simp (maxSteps := 1000000) (implicitDefEqProofs := false) only [Try.ntmps14, Try.results14, efc14, fc14, k1, k2, k3, bne_self_eq_false, List.length_nil, ss, sd, zH, qG, zF, zG, St.get, qE, qF, qB, zC, norm, look, zE, qA, qI, St.alloc, St.drop, zA, part, zB, depth, qD, ↓reduceIte, Nat.reduceBEq, Nat.reduceAdd, Nat.reduceSub, Nat.reduceMul, Nat.reduceEqDiff, Nat.reduceLeDiff, Nat.reduceLT, qJ, qK, qL, qM, qN, qO, qP, qQ, qR, zI, qS, qC, qT, qU, qV, qW, qX, qY, qZ, zJ, zK, zL, wit, Option.isSome_some, qH, St.with, zD, Array.size, te, einl, inls, efr]
      generalize hr : loopAt _ _ _ _ _ _ = r; revert r
      refine loop_nat 0 (fun _ _ => []) (fun _ _ => []) (fun _ (_ : Unit) => True) () (by omega) (by simp (maxSteps := 1000000) (implicitDefEqProofs := false) only [ss, sd, zH, qG, zF, zG, St.get, qE, qF, qB, zC, norm, look, zE, qA, qI, St.alloc, St.drop, zA, part, zB, depth, qD, ↓reduceIte, Nat.reduceBEq, Nat.reduceAdd, Nat.reduceSub, Nat.reduceMul, Nat.reduceEqDiff, Nat.reduceLeDiff, Nat.reduceLT, qJ, qK, qL, qM, qN, qO, qP, qQ, qR, zI, qS, qC, qT, qU, qV, qW, qX, qY, qZ, zJ, zK, zL, wit, Option.isSome_some, qH, St.with, zD, Array.size, te, einl, inls, efr]) trivial (fun _ _ => ?_) (fun i _ _ a1 _ _ => absurd a1 (Nat.not_lt_zero _))
      · simp (maxSteps := 1000000) (implicitDefEqProofs := false) only [Int.lt_irrefl, he', c17, List.length_nil, Try.ntmps14, Try.results14, efc14, fc14, ss, sd, zH, qG, zF, zG, St.get, qE, qF, qB, zC, norm, look, zE, qA, qI, St.alloc, St.drop, zA, part, zB, depth, qD, ↓reduceIte, Nat.reduceBEq, Nat.reduceAdd, Nat.reduceSub, Nat.reduceMul, Nat.reduceEqDiff, Nat.reduceLeDiff, Nat.reduceLT, qJ, qK, qL, qM, qN, qO, qP, qQ, qR, zI, qS, qC, qT, qU, qV, qW, qX, qY, qZ, zJ, zK, zL, wit, Option.isSome_some, qH, St.with, zD, Array.size, te, einl, inls, efr]

end Go.AM.C

