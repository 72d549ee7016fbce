import Derived.Test.YtffbfhjcpgcdeaaCS
set_option linter.unusedVariables false
set_option linter.unusedSimpArgs false
set_option maxRecDepth 20000

namespace Go.AM.C
open Go Go.Proofs

def fitList (ms : List Mk) (a : Art) (n : Nat) : List Int := ((List.range n).filter fun (i : Nat) => fitA ms a i).map fun (i : Nat) => (i : Int)

theorem fitList_succ (ms : List Mk) (a : Art) (n : Nat) : fitList ms a (n + 1) = fitList ms a n ++ (if fitA ms a n = true then [(n : Int)] else []) := by
  unfold fitList
  rw [List.range_succ, List.filter_append, List.map_append]
  congr 1
  cases h : fitA ms a n <;> simp [h]

theorem fitList_len (ms : List Mk) (a : Art) (n : Nat) : (fitList ms a n).length ≤ n := by
  unfold fitList
  rw [List.length_map]
  exact Nat.le_trans (List.length_filter_le _ _) (by simp)

theorem fitA_end (ms : List Mk) (a : Art) (h : 1 ≤ a.len) : fitA ms a (ms.length : Nat) = false := by
  unfold fitA
  rw [decide_eq_false (show ¬ ((ms.length : Nat) : Int) ≤ (ms.length : Int) - a.len by omega)]
  simp

def placesR (xs : List Run) (l : List Art) (k : Int) : List Int × Int := if errM xs l = 0 then (if 0 ≤ k then (match l[k.toNat]? with | some a => (fitList (expand xs) a (expand xs).length, 0) | none => ([], 5)) else ([], 5)) else ([], errM xs l)
def encIs (x : List Int × Int) : V := .tup [.sl true (x.1.map vI), .int .i64 x.2]

theorem placesR_some {xs : List Run} {l : List Art} {k : Int} {a : Art} (he : errM xs l = 0) (h : 0 ≤ k) (h1 : l[k.toNat]? = some a) : placesR xs l k = (fitList (expand xs) a (expand xs).length, 0) := by
  unfold placesR; rw [if_pos he, if_pos h, h1]
theorem placesR_none {xs : List Run} {l : List Art} {k : Int} (he : errM xs l = 0) (h : ¬ (0 ≤ k ∧ k < (l.length : Int))) : placesR xs l k = ([], 5) := by
  unfold placesR
  rw [if_pos he]
  split
  · rw [List.getElem?_eq_none (by omega)]
  · rfl

set_option maxHeartbeats 4000000 in
theorem c24 (xs : List Run) (l : List Art) (k : Int) (hx : xs.length ≤ 100000) (hl : l.length ≤ 100000) :
    (orcω E X0).call 24 [.sl false (xs.map encRun), .sl false (l.map encArt), .int .i64 k] = some (encIs (placesR xs l k)) := by
  refine call_of rfl fn24 rfl ?_
  have k1 := c50 xs l hx hl
  by_cases he : errM xs l = 0
  · rw [benchV_eq he] at k1
    obtain ⟨e1, e2, e3⟩ := errM_zero he
    have e4 := expand_len (valid_okay e1).1
    by_cases a1 : k < 0
    · rw [placesR_none he (by omega)]
      simp (maxSteps := 1000000) (implicitDefEqProofs := false) only [Try.ntmps24, Try.results24, efc24, fc24, k1, a1, encIs, bne_self_eq_false, List.map_nil, ss, sd, zH, qG, zF, zG, St.get, qE, qF, qB, zC, norm, look, zE, qA, qI, St.alloc, St.drop, zA, part, zB, depth, qD, ↓reduceIte, Nat.reduceBEq, Nat.reduceAdd, Nat.reduceSub, Nat.reduceMul, Nat.reduceEqDiff, Nat.reduceLeDiff, Nat.reduceLT, qJ, qK, qL, qM, qN, qO, qP, qQ, qR, zI, qS, qC, qT, evSlice0, qV, qW, qX, qY, qZ, zJ, zK, zL, wit, Option.isSome_some, qH, xJ, evPre, St.with, zD, Array.size, evLitX, evAppX, evCold, nameT, te, einl, inls, efr]
    by_cases a2 : (l.length : Int) ≤ k
    · rw [placesR_none he (by omega)]
      simp (maxSteps := 1000000) (implicitDefEqProofs := false) only [Try.ntmps24, Try.results24, efc24, fc24, k1, a1, a2, encIs, bne_self_eq_false, List.map_nil, ss, sd, zH, qG, zF, zG, St.get, qE, qF, qB, zC, norm, look, zE, qA, qI, St.alloc, St.drop, zA, part, zB, depth, qD, ↓reduceIte, Nat.reduceBEq, Nat.reduceAdd, Nat.reduceSub, Nat.reduceMul, Nat.reduceEqDiff, Nat.reduceLeDiff, Nat.reduceLT, qJ, qK, qL, qM, qN, qO, qP, qQ, qR, zI, qS, qC, qT, evSlice0, qV, qW, qX, qY, qZ, zJ, zK, zL, wit, Option.isSome_some, qH, xJ, evPre, St.with, zD, Array.size, evLitX, evAppX, evCold, nameT, te, einl, inls, efr]
    have g0 : k.toNat < l.length := by omega
    have g1 : l[k.toNat]? = some l[k.toNat] := List.getElem?_eq_getElem g0
    have g2 := ((validA_len e3).2 l[k.toNat] (List.getElem_mem g0)).1
    generalize l[k.toNat] = a at *
    rw [placesR_some he (by omega) g1]
    have g3 := offs_get (expand xs) l 0 k.toNat
    rw [g1, Option.map_some, Nat.zero_add] at g3
    have g4 := offs_len (expand xs) l 0
    have g5 : 0 ≤ k := by omega
    have g6 : k < (l.length : Int) := by omega
    have g7 := bits_len (expand xs).length (fitA (expand xs) a)
    simp (maxSteps := 1000000) (implicitDefEqProofs := false) only [Try.ntmps24, Try.results24, efc24, fc24, k1, a1, a2, g3, g4, g5, g6, g7, encOffer, encIs, bne_self_eq_false, ss, sd, zH, qG, zF, zG, St.get, qE, qF, qB, zC, norm, look, zE, qA, qI, St.alloc, St.drop, zA, part, zB, depth, qD, ↓reduceIte, Nat.reduceBEq, Nat.reduceAdd, Nat.reduceSub, Nat.reduceMul, Nat.reduceEqDiff, Nat.reduceLeDiff, Nat.reduceLT, qJ, qK, qL, qM, qN, qO, qP, qQ, qR, zI, qS, qC, qT, evSlice0, qV, qW, qX, qY, qZ, zJ, zK, zL, wit, Option.isSome_some, qH, xJ, evPre, St.with, zD, Array.size, evLitX, evAppX, evCold, nameT, te, einl, inls, efr]
    generalize hr : loopAt _ _ _ _ _ _ = r; revert r
    refine loop_inv (ι := { i : Nat // i ≤ (expand xs).length + 1 }) (fun i => [(10, .own 10 0 (fitList (expand xs) a i.1).length), (37, .int .i64 i.1)]) (fun i => [(10, { es := 1, flat := true, t := true, app := true, elems := (fitList (expand xs) a i.1).map vI })]) (fun i => (expand xs).length + 1 - i.1) ⟨0, by omega⟩ (by simp (maxSteps := 1000000) (implicitDefEqProofs := false) only [fitList, List.range_zero, List.filter_nil, List.map_nil, ss, sd, zH, qG, zF, zG, St.get, qE, qF, qB, zC, norm, look, zE, qA, qI, St.alloc, St.drop, zA, part, zB, depth, qD, ↓reduceIte, Nat.reduceBEq, Nat.reduceAdd, Nat.reduceSub, Nat.reduceMul, Nat.reduceEqDiff, Nat.reduceLeDiff, Nat.reduceLT, qJ, qK, qL, qM, qN, qO, qP, qQ, qR, zI, qS, qC, qT, evSlice0, qV, qW, qX, qY, qZ, zJ, zK, zL, wit, Option.isSome_some, qH, xJ, evPre, St.with, zD, Array.size, evLitX, evAppX, evCold, nameT, te, einl, inls, efr]) ?_
    rintro ⟨i, hi⟩
    dsimp only
    have w1 : IntKind.i64.wrap ((i : Int) + 1) = ((i + 1 : Nat) : Int) := by rw [wrap_in (by omega)]; omega
    by_cases hlt : (i : Int) < (((expand xs).length + 1 : Nat) : Int)
    · have b1 := bits_get (expand xs).length (fitA (expand xs) a) (f := i) (by omega)
      have b2 := fitList_succ (expand xs) a i
      have b3 := fitList_len (expand xs) a i
      cases hb : fitA (expand xs) a i with
      | true =>
        rw [hb] at b1 b2
        rw [if_pos rfl] at b2
        have hroom : roomy ((fitList (expand xs) a i).length + 1) 8 = true := by simp [roomy]; omega
        have hbig : (fitList (expand xs) a i).length + 1 ≤ 4294967296 := by omega
        simp (maxSteps := 1000000) (implicitDefEqProofs := false) only [hlt, w1, g7, b1, hroom, hbig, Int.natCast_nonneg, Int.toNat_natCast, ss, sd, zH, qG, zF, zG, St.get, qE, qF, qB, zC, norm, look, zE, qA, qI, St.alloc, St.drop, zA, part, zB, depth, qD, ↓reduceIte, Nat.reduceBEq, Nat.reduceAdd, Nat.reduceSub, Nat.reduceMul, Nat.reduceEqDiff, Nat.reduceLeDiff, Nat.reduceLT, qJ, qK, qL, qM, qN, qO, qP, qQ, qR, zI, qS, qC, qT, evSlice0, qV, qW, qX, qY, qZ, zJ, zK, zL, wit, Option.isSome_some, qH, xJ, evPre, St.with, zD, Array.size, evLitX, evAppX, evCold, nameT, te, einl, inls, efr]
        have b4 : (fitList (expand xs) a (i + 1)).length = (fitList (expand xs) a i).length + 1 := by rw [b2]; simp
        have b5 : (fitList (expand xs) a (i + 1)).map vI = (fitList (expand xs) a i).map vI ++ [.int .i64 i] := by rw [b2, List.map_append]; rfl
        exact ⟨⟨i + 1, by omega⟩, by dsimp only; rw [b4, b5], by dsimp only; omega⟩
      | false =>
        rw [hb] at b1 b2
        rw [if_neg (by simp), List.append_nil] at b2
        simp (maxSteps := 1000000) (implicitDefEqProofs := false) only [hlt, w1, g7, b1, Int.natCast_nonneg, Int.toNat_natCast, ss, sd, zH, qG, zF, zG, St.get, qE, qF, qB, zC, norm, look, zE, qA, qI, St.alloc, St.drop, zA, part, zB, depth, qD, ↓reduceIte, Nat.reduceBEq, Nat.reduceAdd, Nat.reduceSub, Nat.reduceMul, Nat.reduceEqDiff, Nat.reduceLeDiff, Nat.reduceLT, qJ, qK, qL, qM, qN, qO, qP, qQ, qR, zI, qS, qC, qT, evSlice0, qV, qW, qX, qY, qZ, zJ, zK, zL, wit, Option.isSome_some, qH, xJ, evPre, St.with, zD, Array.size, evLitX, evAppX, evCold, nameT, te, einl, inls, efr]
        exact ⟨⟨i + 1, by omega⟩, by rw [b2], by dsimp only; omega⟩
    · obtain rfl : i = (expand xs).length + 1 := by omega
      have b2 := fitList_succ (expand xs) a (expand xs).length
      rw [fitA_end _ _ g2.1, if_neg (by simp), List.append_nil] at b2
      rw [b2]
      simp (maxSteps := 1000000) (implicitDefEqProofs := false) only [hlt, g7, Try.ntmps24, Try.results24, efc24, fc24, ss, sd, zH, qG, zF, zG, St.get, qE, qF, qB, zC, norm, look, zE, qA, qI, St.alloc, St.drop, zA, part, zB, depth, qD, ↓reduceIte, Nat.reduceBEq, Nat.reduceAdd, Nat.reduceSub, Nat.reduceMul, Nat.reduceEqDiff, Nat.reduceLeDiff, Nat.reduceLT, qJ, qK, qL, qM, qN, qO, qP, qQ, qR, zI, qS, qC, qT, evSlice0, qV, qW, qX, qY, qZ, zJ, zK, zL, wit, Option.isSome_some, qH, xJ, evPre, St.with, zD, Array.size, evLitX, evAppX, evCold, nameT, te, einl, inls, efr]
  · unfold layV at k1
    rw [if_neg he] at k1
    unfold placesR
    rw [if_neg he]
    have he' : (errM xs l != 0) = true := by simpa using he
    simp (maxSteps := 1000000) (implicitDefEqProofs := false) only [Try.ntmps24, Try.results24, efc24, fc24, k1, bench0, encIs, he', List.map_nil, ss, sd, zH, qG, zF, zG, St.get, qE, qF, qB, zC, norm, look, zE, qA, qI, St.alloc, St.drop, zA, part, zB, depth, qD, ↓reduceIte, Nat.reduceBEq, Nat.reduceAdd, Nat.reduceSub, Nat.reduceMul, Nat.reduceEqDiff, Nat.reduceLeDiff, Nat.reduceLT, qJ, qK, qL, qM, qN, qO, qP, qQ, qR, zI, qS, qC, qT, evSlice0, qV, qW, qX, qY, qZ, zJ, zK, zL, wit, Option.isSome_some, qH, xJ, evPre, St.with, zD, Array.size, evLitX, evAppX, evCold, nameT, te, einl, inls, efr]

set_option maxHeartbeats 4000000 in
theorem c25 (xs : List Run) (l : List Art) (k : Int) (hx : xs.length ≤ 100000) (hl : l.length ≤ 100000) :
    (orcω E X0).call 25 [.sl false (xs.map encRun), .sl false (l.map encArt), .int .i64 k] = some (encIs (placesR xs l k)) := by
  refine call_of rfl fn25 rfl ?_
  have k1 := c52 xs l hx hl
  unfold marksM at k1
  by_cases he : errM xs l = 0
  · rw [if_pos he] at k1
    simp only [encMks] at k1
    obtain ⟨e1, e2, e3⟩ := errM_zero he
    have e4 := expand_len (valid_okay e1).1
    by_cases a1 : k < 0
    · rw [placesR_none he (by omega)]
      simp (maxSteps := 1000000) (implicitDefEqProofs := false) only [Try.ntmps25, Try.results25, efc25, fc25, k1, a1, encIs, bne_self_eq_false, List.map_nil, ss, sd, zH, qG, zF, zG, St.get, qE, qF, qB, zC, norm, look, zE, qA, qI, St.alloc, St.drop, zA, part, zB, depth, qD, ↓reduceIte, Nat.reduceBEq, Nat.reduceAdd, Nat.reduceSub, Nat.reduceMul, Nat.reduceEqDiff, Nat.reduceLeDiff, Nat.reduceLT, qJ, qK, qL, qM, qN, qO, qP, qQ, qR, zI, qS, qC, qT, evSlice0, qV, qW, qX, qY, qZ, zJ, zK, zL, wit, Option.isSome_some, qH, xJ, evPre, St.with, zD, Array.size, evLitX, evAppX, evCold, nameT, te, einl, inls, efr]
    by_cases a2 : (l.length : Int) ≤ k
    · rw [placesR_none he (by omega)]
      simp (maxSteps := 1000000) (implicitDefEqProofs := false) only [Try.ntmps25, Try.results25, efc25, fc25, k1, a1, a2, encIs, bne_self_eq_false, List.map_nil, ss, sd, zH, qG, zF, zG, St.get, qE, qF, qB, zC, norm, look, zE, qA, qI, St.alloc, St.drop, zA, part, zB, depth, qD, ↓reduceIte, Nat.reduceBEq, Nat.reduceAdd, Nat.reduceSub, Nat.reduceMul, Nat.reduceEqDiff, Nat.reduceLeDiff, Nat.reduceLT, qJ, qK, qL, qM, qN, qO, qP, qQ, qR, zI, qS, qC, qT, evSlice0, qV, qW, qX, qY, qZ, zJ, zK, zL, wit, Option.isSome_some, qH, xJ, evPre, St.with, zD, Array.size, evLitX, evAppX, evCold, nameT, te, einl, inls, efr]
    have g0 : k.toNat < l.length := by omega
    have g1 : l[k.toNat]? = some l[k.toNat] := List.getElem?_eq_getElem g0
    generalize l[k.toNat] = a at *
    rw [placesR_some he (by omega) g1]
    simp (maxSteps := 1000000) (implicitDefEqProofs := false) only [Try.ntmps25, Try.results25, efc25, fc25, k1, a1, a2, encIs, bne_self_eq_false, ss, sd, zH, qG, zF, zG, St.get, qE, qF, qB, zC, norm, look, zE, qA, qI, St.alloc, St.drop, zA, part, zB, depth, qD, ↓reduceIte, Nat.reduceBEq, Nat.reduceAdd, Nat.reduceSub, Nat.reduceMul, Nat.reduceEqDiff, Nat.reduceLeDiff, Nat.reduceLT, qJ, qK, qL, qM, qN, qO, qP, qQ, qR, zI, qS, qC, qT, evSlice0, qV, qW, qX, qY, qZ, zJ, zK, zL, wit, Option.isSome_some, qH, xJ, evPre, St.with, zD, Array.size, evLitX, evAppX, evCold, nameT, te, einl, inls, efr]
    generalize hr : loopAt _ _ _ _ _ _ = r; revert r
    refine loop_inv (ι := { i : Nat // i ≤ (expand xs).length }) (fun i => [(10, .own 10 0 (fitList (expand xs) a i.1).length), (11, .int .i64 i.1)]) (fun i => [(10, { es := 1, flat := true, t := true, app := true, elems := (fitList (expand xs) a i.1).map vI })]) (fun i => (expand xs).length - i.1) ⟨0, by omega⟩ (by simp (maxSteps := 1000000) (implicitDefEqProofs := false) only [fitList, List.range_zero, List.filter_nil, List.map_nil, ss, sd, zH, qG, zF, zG, St.get, qE, qF, qB, zC, norm, look, zE, qA, qI, St.alloc, St.drop, zA, part, zB, depth, qD, ↓reduceIte, Nat.reduceBEq, Nat.reduceAdd, Nat.reduceSub, Nat.reduceMul, Nat.reduceEqDiff, Nat.reduceLeDiff, Nat.reduceLT, qJ, qK, qL, qM, qN, qO, qP, qQ, qR, zI, qS, qC, qT, evSlice0, qV, qW, qX, qY, qZ, zJ, zK, zL, wit, Option.isSome_some, qH, xJ, evPre, St.with, zD, Array.size, evLitX, evAppX, evCold, nameT, te, einl, inls, efr]) ?_
    rintro ⟨i, hi⟩
    dsimp only
    have w1 : IntKind.i64.wrap ((i : Int) + 1) = ((i + 1 : Nat) : Int) := by rw [wrap_in (by omega)]; omega
    by_cases hlt : (i : Int) < ((expand xs).length : Int)
    · have b1 := c53 (expand xs) l i k (by omega) e3
      rw [fitsM_some (by omega) g1] at b1
      have b2 := fitList_succ (expand xs) a i
      have b3 := fitList_len (expand xs) a i
      cases hb : fitA (expand xs) a i with
      | true =>
        rw [hb] at b1 b2
        rw [if_pos rfl] at b2
        have hroom : roomy ((fitList (expand xs) a i).length + 1) 8 = true := by simp [roomy]; omega
        have hbig : (fitList (expand xs) a i).length + 1 ≤ 4294967296 := by omega
        simp (maxSteps := 1000000) (implicitDefEqProofs := false) only [hlt, w1, b1, hroom, hbig, Int.natCast_nonneg, Int.toNat_natCast, ss, sd, zH, qG, zF, zG, St.get, qE, qF, qB, zC, norm, look, zE, qA, qI, St.alloc, St.drop, zA, part, zB, depth, qD, ↓reduceIte, Nat.reduceBEq, Nat.reduceAdd, Nat.reduceSub, Nat.reduceMul, Nat.reduceEqDiff, Nat.reduceLeDiff, Nat.reduceLT, qJ, qK, qL, qM, qN, qO, qP, qQ, qR, zI, qS, qC, qT, evSlice0, qV, qW, qX, qY, qZ, zJ, zK, zL, wit, Option.isSome_some, qH, xJ, evPre, St.with, zD, Array.size, evLitX, evAppX, evCold, nameT, te, einl, inls, efr]
        have b4 : (fitList (expand xs) a (i + 1)).length = (fitList (expand xs) a i).length + 1 := by rw [b2]; simp
        have b5 : (fitList (expand xs) a (i + 1)).map vI = (fitList (expand xs) a i).map vI ++ [.int .i64 i] := by rw [b2, List.map_append]; rfl
        exact ⟨⟨i + 1, by omega⟩, by dsimp only; rw [b4, b5], by dsimp only; omega⟩
      | false =>
        rw [hb] at b1 b2
        rw [if_neg (by simp), List.append_nil] at b2
        simp (maxSteps := 1000000) (implicitDefEqProofs := false) only [hlt, w1, b1, Int.natCast_nonneg, Int.toNat_natCast, ss, sd, zH, qG, zF, zG, St.get, qE, qF, qB, zC, norm, look, zE, qA, qI, St.alloc, St.drop, zA, part, zB, depth, qD, ↓reduceIte, Nat.reduceBEq, Nat.reduceAdd, Nat.reduceSub, Nat.reduceMul, Nat.reduceEqDiff, Nat.reduceLeDiff, Nat.reduceLT, qJ, qK, qL, qM, qN, qO, qP, qQ, qR, zI, qS, qC, qT, evSlice0, qV, qW, qX, qY, qZ, zJ, zK, zL, wit, Option.isSome_some, qH, xJ, evPre, St.with, zD, Array.size, evLitX, evAppX, evCold, nameT, te, einl, inls, efr]
        exact ⟨⟨i + 1, by omega⟩, by rw [b2], by dsimp only; omega⟩
    · obtain rfl : i = (expand xs).length := by omega
      simp (maxSteps := 1000000) (implicitDefEqProofs := false) only [hlt, Try.ntmps25, Try.results25, efc25, fc25, ss, sd, zH, qG, zF, zG, St.get, qE, qF, qB, zC, norm, look, zE, qA, qI, St.alloc, St.drop, zA, part, zB, depth, qD, ↓reduceIte, Nat.reduceBEq, Nat.reduceAdd, Nat.reduceSub, Nat.reduceMul, Nat.reduceEqDiff, Nat.reduceLeDiff, Nat.reduceLT, qJ, qK, qL, qM, qN, qO, qP, qQ, qR, zI, qS, qC, qT, evSlice0, qV, qW, qX, qY, qZ, zJ, zK, zL, wit, Option.isSome_some, qH, xJ, evPre, St.with, zD, Array.size, evLitX, evAppX, evCold, nameT, te, einl, inls, efr]
  · rw [if_neg he] at k1
    simp only [encMks] at k1
    unfold placesR
    rw [if_neg he]
    have he' : (errM xs l != 0) = true := by simpa using he
    simp (maxSteps := 1000000) (implicitDefEqProofs := false) only [Try.ntmps25, Try.results25, efc25, fc25, k1, encIs, he', List.map_nil, ss, sd, zH, qG, zF, zG, St.get, qE, qF, qB, zC, norm, look, zE, qA, qI, St.alloc, St.drop, zA, part, zB, depth, qD, ↓reduceIte, Nat.reduceBEq, Nat.reduceAdd, Nat.reduceSub, Nat.reduceMul, Nat.reduceEqDiff, Nat.reduceLeDiff, Nat.reduceLT, qJ, qK, qL, qM, qN, qO, qP, qQ, qR, zI, qS, qC, qT, evSlice0, qV, qW, qX, qY, qZ, zJ, zK, zL, wit, Option.isSome_some, qH, xJ, evPre, St.with, zD, Array.size, evLitX, evAppX, evCold, nameT, te, einl, inls, efr]

theorem okT26 : okCode (Try.f26.body.getD .skip) = true := by decide +kernel

theorem c26 (t u : Bool) (us vs : List Int) (hn : us.length ≤ 1000000000) : (orcω E X0).call 26 [.sl t (us.map vI), .sl u (vs.map vI)] = some (.bool (decide (us = vs))) := by
  refine call_of rfl fn26 rfl ?_
  have hok := okT26
  simp only [Try.f26, Option.getD_some, okCode, Bool.and_eq_true, Bool.and_true, Bool.true_and] at hok
  by_cases hl : us.length = vs.length
  · have hl' : ((us.length : Int) != (vs.length : Int)) = false := by simp [hl]
    simp (maxSteps := 1000000) (implicitDefEqProofs := false) only [Try.ntmps26, Try.results26, efc26, fc26, hl', ss, sd, zH, qG, zF, zG, St.get, qE, qF, qB, zC, norm, look, zE, qA, qI, St.alloc, St.drop, zA, part, zB, depth, qD, ↓reduceIte, Nat.reduceBEq, Nat.reduceAdd, Nat.reduceSub, Nat.reduceMul, Nat.reduceEqDiff, Nat.reduceLeDiff, Nat.reduceLT, qJ, qK, qL, qM, qN, qO, qP, qQ, qR, zI, qS, qC, qT, evSlice0, qV, qW, qX, qY, qZ, zJ, zK, zL, wit, Option.isSome_some, qH, xJ, evPre, St.with, zD, Array.size, evLitX, evAppX, evCold, nameT, te, einl, inls, efr]
    generalize hr : loopAt _ _ _ _ _ _ = r; revert r
    refine loop_list us (fun pre _ => [(5, .int .i64 pre.length)]) (fun _ _ => []) (fun pre (_ : Unit) => pre = vs.take pre.length) () (by omega) (by simp (maxSteps := 1000000) (implicitDefEqProofs := false) only [ss, sd, zH, qG, zF, zG, St.get, qE, qF, qB, zC, norm, look, zE, qA, qI, St.alloc, St.drop, zA, part, zB, depth, qD, ↓reduceIte, Nat.reduceBEq, Nat.reduceAdd, Nat.reduceSub, Nat.reduceMul, Nat.reduceEqDiff, Nat.reduceLeDiff, Nat.reduceLT, qJ, qK, qL, qM, qN, qO, qP, qQ, qR, zI, qS, qC, qT, evSlice0, qV, qW, qX, qY, qZ, zJ, zK, zL, wit, Option.isSome_some, qH, xJ, evPre, St.with, zD, Array.size, evLitX, evAppX, evCold, nameT, te, einl, inls, efr]) (by simp) (fun _ hi => ?_) (fun pre x post _ hp hi g1 g2 g3 g4 => ?_)
    · rw [hl, List.take_length] at hi
      simp (maxSteps := 1000000) (implicitDefEqProofs := false) only [Int.lt_irrefl, Try.ntmps26, Try.results26, efc26, fc26, ss, sd, zH, qG, zF, zG, St.get, qE, qF, qB, zC, norm, look, zE, qA, qI, St.alloc, St.drop, zA, part, zB, depth, qD, ↓reduceIte, Nat.reduceBEq, Nat.reduceAdd, Nat.reduceSub, Nat.reduceMul, Nat.reduceEqDiff, Nat.reduceLeDiff, Nat.reduceLT, qJ, qK, qL, qM, qN, qO, qP, qQ, qR, zI, qS, qC, qT, evSlice0, qV, qW, qX, qY, qZ, zJ, zK, zL, wit, Option.isSome_some, qH, xJ, evPre, St.with, zD, Array.size, evLitX, evAppX, evCold, nameT, te, einl, inls, efr]
      simp [hi]
    · have h1 : pre.length < vs.length := by omega
      have h2 : vs[pre.length]? = some vs[pre.length] := List.getElem?_eq_getElem h1
      generalize hy : vs[pre.length] = y at *
      have h3 : (pre.length : Int) < (vs.length : Int) := by omega
      cases hxy : (x != y) with
      | true =>
        have hne : us ≠ vs := by
          intro e
          rw [e, h2] at g3
          cases g3
          simp at hxy
        simp (maxSteps := 1000000) (implicitDefEqProofs := false) only [g1, g2, g3, g4, h2, h3, hxy, vI, Int.natCast_nonneg, Int.toNat_natCast, List.getElem?_map, evRegion_st hok, Try.ntmps26, Try.results26, efc26, fc26, ss, sd, zH, qG, zF, zG, St.get, qE, qF, qB, zC, norm, look, zE, qA, qI, St.alloc, St.drop, zA, part, zB, depth, qD, ↓reduceIte, Nat.reduceBEq, Nat.reduceAdd, Nat.reduceSub, Nat.reduceMul, Nat.reduceEqDiff, Nat.reduceLeDiff, Nat.reduceLT, qJ, qK, qL, qM, qN, qO, qP, qQ, qR, zI, qS, qC, qT, evSlice0, qV, qW, qX, qY, qZ, zJ, zK, zL, wit, Option.isSome_some, qH, xJ, evPre, St.with, zD, Array.size, evLitX, evAppX, evCold, nameT, te, einl, inls, efr]
        simp [hne]
      | false =>
        have e : x = y := by simpa using hxy
        simp (maxSteps := 1000000) (implicitDefEqProofs := false) only [g1, g2, g3, g4, h2, h3, hxy, vI, Int.natCast_nonneg, Int.toNat_natCast, List.getElem?_map, evRegion_st hok, ss, sd, zH, qG, zF, zG, St.get, qE, qF, qB, zC, norm, look, zE, qA, qI, St.alloc, St.drop, zA, part, zB, depth, qD, ↓reduceIte, Nat.reduceBEq, Nat.reduceAdd, Nat.reduceSub, Nat.reduceMul, Nat.reduceEqDiff, Nat.reduceLeDiff, Nat.reduceLT, qJ, qK, qL, qM, qN, qO, qP, qQ, qR, zI, qS, qC, qT, evSlice0, qV, qW, qX, qY, qZ, zJ, zK, zL, wit, Option.isSome_some, qH, xJ, evPre, St.with, zD, Array.size, evLitX, evAppX, evCold, nameT, te, einl, inls, efr]
        refine ⟨(), ?_⟩
        rw [List.length_append, List.length_singleton, List.take_add_one, h2, ← hi, e]
        rfl
  · have hl' : ((us.length : Int) != (vs.length : Int)) = true := by simp; omega
    have hne : us ≠ vs := fun e => hl (by rw [e])
    simp (maxSteps := 1000000) (implicitDefEqProofs := false) only [Try.ntmps26, Try.results26, efc26, fc26, hl', ss, sd, zH, qG, zF, zG, St.get, qE, qF, qB, zC, norm, look, zE, qA, qI, St.alloc, St.drop, zA, part, zB, depth, qD, ↓reduceIte, Nat.reduceBEq, Nat.reduceAdd, Nat.reduceSub, Nat.reduceMul, Nat.reduceEqDiff, Nat.reduceLeDiff, Nat.reduceLT, qJ, qK, qL, qM, qN, qO, qP, qQ, qR, zI, qS, qC, qT, evSlice0, qV, qW, qX, qY, qZ, zJ, zK, zL, wit, Option.isSome_some, qH, xJ, evPre, St.with, zD, Array.size, evLitX, evAppX, evCold, nameT, te, einl, inls, efr]
    simp [hne]

theorem placesR_len (xs : List Run) (l : List Art) (k : Int) : (placesR xs l k).1.length ≤ 1000 := by
  unfold placesR
  split
  · rename_i he
    obtain ⟨e1, e2, e3⟩ := errM_zero he
    have e4 := expand_len (valid_okay e1).1
    split
    · split
      · have := fitList_len (expand xs) ‹_› (expand xs).length
        dsimp only; omega
      · simp
    · simp
  · simp

theorem c5 (xs : List Run) (l : List Art) (k : Int) : (orcω E X0).call 5 [.sl false (xs.map encRun), .sl false (l.map encArt), .int .i64 k] = some (.bool true) := by
  refine call_of rfl fn5 rfl ?_
  have k1 := c16 xs l false []
  cases hlong : long xs l 0 with
  | true =>
    rw [List.length_nil, hlong] at k1
    simp (maxSteps := 1000000) (implicitDefEqProofs := false) only [Try.ntmps5, Try.results5, efc5, k1, c17, ss, sd, zH, qG, zF, zG, St.get, qE, qF, qB, zC, norm, look, zE, qA, qI, St.alloc, St.drop, zA, part, zB, depth, qD, ↓reduceIte, Nat.reduceBEq, Nat.reduceAdd, Nat.reduceSub, Nat.reduceMul, Nat.reduceEqDiff, Nat.reduceLeDiff, Nat.reduceLT, qJ, qK, qL, qM, qN, qO, qP, qQ, qR, zI, qS, qC, qT, evSlice0, qV, qW, qX, qY, qZ, zJ, zK, zL, wit, Option.isSome_some, qH, xJ, evPre, St.with, zD, Array.size, evLitX, evAppX, evCold, nameT, te, einl, inls, efr]
  | false =>
    rw [List.length_nil, hlong] at k1
    unfold long at hlong
    simp only [Bool.or_eq_false_iff, decide_eq_false_iff_not] at hlong
    have k2 := c24 xs l k (by omega) (by omega)
    have k3 := c25 xs l k (by omega) (by omega)
    have l1 := placesR_len xs l k
    generalize placesR xs l k = R at *
    obtain ⟨b, e⟩ := R
    dsimp only at l1
    have k4 := c26 false false b b (by omega)
    simp only [encIs, decide_true] at k2 k3 k4
    simp (maxSteps := 1000000) (implicitDefEqProofs := false) only [Try.ntmps5, Try.results5, efc5, k1, k2, k3, k4, c17, beq_self_eq_true, ss, sd, zH, qG, zF, zG, St.get, qE, qF, qB, zC, norm, look, zE, qA, qI, St.alloc, St.drop, zA, part, zB, depth, qD, ↓reduceIte, Nat.reduceBEq, Nat.reduceAdd, Nat.reduceSub, Nat.reduceMul, Nat.reduceEqDiff, Nat.reduceLeDiff, Nat.reduceLT, qJ, qK, qL, qM, qN, qO, qP, qQ, qR, zI, qS, qC, qT, evSlice0, qV, qW, qX, qY, qZ, zJ, zK, zL, wit, Option.isSome_some, qH, xJ, evPre, St.with, zD, Array.size, evLitX, evAppX, evCold, nameT, te, einl, inls, efr]

end Go.AM.C

