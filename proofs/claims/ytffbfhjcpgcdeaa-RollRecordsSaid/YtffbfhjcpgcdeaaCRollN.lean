import Derived.Test.YtffbfhjcpgcdeaaCRollM
set_option linter.unusedVariables false
set_option linter.unusedSimpArgs false
set_option maxRecDepth 20000

namespace Go.AM.C
open Go Go.Proofs

def pad (us : List Int) (k : Nat) : List V := (us ++ List.replicate k 0).map vI

theorem pad_get {us : List Int} {k i : Nat} (h : i < us.length) : (pad us k)[i]? = some (.int .i64 (at0 us i)) := by
  unfold pad
  rw [List.getElem?_map, List.getElem?_append_left h, at0_get h]
  rfl
theorem pad_get0 {us : List Int} {k i : Nat} (h : i = us.length) (hk : 0 < k) : (pad us k)[i]? = some (.int .i64 0) := by
  unfold pad
  rw [List.getElem?_map, List.getElem?_append_right (by omega), List.getElem?_replicate, if_pos (by omega)]
  rfl
theorem pad_set {us : List Int} {k i : Nat} {x : Int} (h : i = us.length) (hk : 0 < k) : (pad us k).set i (.int .i64 x) = pad (us ++ [x]) (k - 1) := by
  subst h
  unfold pad
  obtain ⟨j, rfl⟩ : ∃ j, k = j + 1 := ⟨k - 1, by omega⟩
  rw [List.replicate_succ]
  simp [List.set_append, vI]
theorem pad_set_last {us : List Int} {k i : Nat} {x y : Int} (h : i = us.length) : (pad (us ++ [x]) k).set i (.int .i64 y) = pad (us ++ [y]) k := by
  subst h
  unfold pad
  simp [List.set_append, vI]

def obI (us : List V) : Ob := { es := 1, flat := true, t := true, app := true, elems := us }
def obB (xs : List Run) (l : List Art) : Ob := { es := 3, flat := true, t := false, app := false, elems := [.agg [.sl false (xs.map encRun), .int .i64 ((expand xs).length : Nat), .sl false (offs (expand xs) 0 l)]] }

set_option maxHeartbeats 8000000 in
theorem c55 (xs : List Run) (l : List Art) (hl : validA l = 0) (hN : (expand xs).length ≤ 300) : (orcω E X0).call 55 [benchA xs l] = some (.tup [.sl true ((valsW (expand xs) l (expand xs).length).map vI), .sl true ((lastW (expand xs) l (expand xs).length).map vI)]) := by
  refine call_of rfl fn55 rfl ?_
  unfold benchA
  have w0 : IntKind.i64.wrap (((expand xs).length : Int) + 1) = (expand xs).length + 1 := wrap_in (by omega)
  have w5 : (0 ≤ ((expand xs).length : Int) + 1) = True := eq_true (by omega)
  have w6 : (((expand xs).length : Int) + 1 ≤ 4294967296) = True := eq_true (by omega)
  have w7 : (((expand xs).length : Int) + 1).toNat = (expand xs).length + 1 := by omega
  have hroom : roomy ((expand xs).length + 1) 8 = true := by simp [roomy]; omega
  have z1 : List.replicate ((expand xs).length + 1) (V.int .i64 0) = pad (valsW (expand xs) l 0) (expand xs).length := by
    unfold pad valsW worthL
    rw [List.replicate_succ]
    simp [vI]
  have z2 : (pad (valsW (expand xs) l 0) (expand xs).length).set 0 (.int .i64 (-1)) = pad (lastW (expand xs) l 0) (expand xs).length := pad_set_last (us := []) rfl
  have z3 : (pad (valsW (expand xs) l 0) (expand xs).length)[0]? = some (.int .i64 0) := pad_get (us := valsW (expand xs) l 0) (i := 0) (by rw [vals_len]; omega)
  have g4 := offs_len (expand xs) l 0
  have l5 := (validA_len hl).1
  have w8 : ((0 : Int) < (((expand xs).length + 1 : Nat) : Int)) = True := eq_true (by omega)
  simp (maxSteps := 1000000) (implicitDefEqProofs := false) only [Try.ntmps55, Try.results55, efc55, fc55, ss, sd, zH, qG, zF, zG, St.get, qE, qF, qB, zC, norm, look, zE, qA, qI, St.alloc, St.drop, zA, part, zB, depth, qD, ↓reduceIte, Nat.reduceBEq, Nat.reduceAdd, Nat.reduceSub, Nat.reduceMul, Nat.reduceEqDiff, Nat.reduceLeDiff, Nat.reduceLT, qJ, qK, qL, qM, qN, qO, qP, qQ, qR, zI, qS, qC, qT, evSlice0, qV, qW, qX, qY, qZ, zJ, zK, zL, wit, Option.isSome_some, qH, xJ, evPre, St.with, zD, Array.size, evLitX, evAppX, evCold, nameT, te, einl, inls, efr]
  rw [evRegion_dynB]
  rotate_left
  · rfl
  simp (maxSteps := 1000000) (implicitDefEqProofs := false) only [w0, w5, w6, w7, w8, hroom, z1, z2, z3, Int.toNat_zero, Int.le_refl, ss, sd, zH, qG, zF, zG, St.get, qE, qF, qB, zC, norm, look, zE, qA, qI, St.alloc, St.drop, zA, part, zB, depth, qD, ↓reduceIte, Nat.reduceBEq, Nat.reduceAdd, Nat.reduceSub, Nat.reduceMul, Nat.reduceEqDiff, Nat.reduceLeDiff, Nat.reduceLT, qJ, qK, qL, qM, qN, qO, qP, qQ, qR, zI, qS, qC, qT, evSlice0, qV, qW, qX, qY, qZ, zJ, zK, zL, wit, Option.isSome_some, qH, xJ, evPre, St.with, zD, Array.size, evLitX, evAppX, evCold, nameT, te, einl, inls, efr]
  generalize hr : loopAt _ _ _ _ _ _ = r; revert r
  refine loop_inv (ι := { n : Nat // n ≤ (expand xs).length }) (fun n => [(4, .int .i64 ((n.1 + 1 : Nat) : Int))]) (fun n => [(1, obB xs l), (2, obI (pad (valsW (expand xs) l n.1) ((expand xs).length - n.1))), (3, obI (pad (lastW (expand xs) l n.1) ((expand xs).length - n.1)))]) (fun n => (expand xs).length - n.1) ⟨0, by omega⟩ (by simp (maxSteps := 1000000) (implicitDefEqProofs := false) only [obB, obI, Nat.sub_zero, Nat.zero_add, Int.natCast_one, ss, sd, zH, qG, zF, zG, St.get, qE, qF, qB, zC, norm, look, zE, qA, qI, St.alloc, St.drop, zA, part, zB, depth, qD, ↓reduceIte, Nat.reduceBEq, Nat.reduceAdd, Nat.reduceSub, Nat.reduceMul, Nat.reduceEqDiff, Nat.reduceLeDiff, Nat.reduceLT, qJ, qK, qL, qM, qN, qO, qP, qQ, qR, zI, qS, qC, qT, evSlice0, qV, qW, qX, qY, qZ, zJ, zK, zL, wit, Option.isSome_some, qH, xJ, evPre, St.with, zD, Array.size, evLitX, evAppX, evCold, nameT, te, einl, inls, efr]; try rfl) ?_
  rintro ⟨n, hn⟩
  dsimp only
  by_cases hlt : ((n + 1 : Nat) : Int) ≤ ((expand xs).length : Int)
  · have d1 : (pad (valsW (expand xs) l n) ((expand xs).length - n))[n]? = some (.int .i64 (at0 (valsW (expand xs) l n) n)) := pad_get (by rw [vals_len]; omega)
    have d2 : (pad (valsW (expand xs) l n) ((expand xs).length - n))[n + 1]? = some (.int .i64 0) := pad_get0 (by rw [vals_len]) (by omega)
    have d3 : (pad (lastW (expand xs) l n) ((expand xs).length - n))[n + 1]? = some (.int .i64 0) := pad_get0 (by rw [last_len]) (by omega)
    have d4 : (pad (valsW (expand xs) l n) ((expand xs).length - n)).set (n + 1) (.int .i64 (at0 (valsW (expand xs) l n) n)) = pad (valsW (expand xs) l n ++ [at0 (valsW (expand xs) l n) n]) ((expand xs).length - n - 1) := pad_set (by rw [vals_len]) (by omega)
    have d5 : (pad (lastW (expand xs) l n) ((expand xs).length - n)).set (n + 1) (.int .i64 (-1)) = pad (lastW (expand xs) l n ++ [-1]) ((expand xs).length - n - 1) := pad_set (by rw [last_len]) (by omega)
    have w1 : IntKind.i64.wrap (((n + 1 : Nat) : Int) - 1) = (n : Int) := by rw [wrap_in (by omega)]; omega
    have w2 : IntKind.i64.wrap (((n + 1 : Nat) : Int) + 1) = ((n + 1 + 1 : Nat) : Int) := by rw [wrap_in (by omega)]; omega
    have u1 : ((n : Int) < (((expand xs).length + 1 : Nat) : Int)) = True := eq_true (by omega)
    have u2 : (((n + 1 : Nat) : Int) < (((expand xs).length + 1 : Nat) : Int)) = True := eq_true (by omega)
    simp (maxSteps := 1000000) (implicitDefEqProofs := false) only [hlt, w1, d1, d2, d3, d4, d5, u1, u2, g4, obB, obI, Int.natCast_nonneg, Int.toNat_natCast, ss, sd, zH, qG, zF, zG, St.get, qE, qF, qB, zC, norm, look, zE, qA, qI, St.alloc, St.drop, zA, part, zB, depth, qD, ↓reduceIte, Nat.reduceBEq, Nat.reduceAdd, Nat.reduceSub, Nat.reduceMul, Nat.reduceEqDiff, Nat.reduceLeDiff, Nat.reduceLT, qJ, qK, qL, qM, qN, qO, qP, qQ, qR, zI, qS, qC, qT, evSlice0, qV, qW, qX, qY, qZ, zJ, zK, zL, wit, Option.isSome_some, qH, xJ, evPre, St.with, zD, Array.size, evLitX, evAppX, evCold, nameT, te, einl, inls, efr]
    generalize hr : loopAt _ _ _ _ _ _ = r; revert r
    refine loop_inv (ι := { k : Nat // k ≤ l.length }) (fun k => [(38, .int .i64 k.1)]) (fun k => [(1, obB xs l), (2, obI (pad (valsW (expand xs) l n ++ [(bestW (expand xs) l (valsW (expand xs) l n) (n + 1) k.1).1]) ((expand xs).length - n - 1))), (3, obI (pad (lastW (expand xs) l n ++ [(bestW (expand xs) l (valsW (expand xs) l n) (n + 1) k.1).2]) ((expand xs).length - n - 1)))]) (fun k => l.length - k.1) ⟨0, by omega⟩ (by simp (maxSteps := 1000000) (implicitDefEqProofs := false) only [obB, obI, bestW, Nat.add_sub_cancel, ss, sd, zH, qG, zF, zG, St.get, qE, qF, qB, zC, norm, look, zE, qA, qI, St.alloc, St.drop, zA, part, zB, depth, qD, ↓reduceIte, Nat.reduceBEq, Nat.reduceAdd, Nat.reduceSub, Nat.reduceMul, Nat.reduceEqDiff, Nat.reduceLeDiff, Nat.reduceLT, qJ, qK, qL, qM, qN, qO, qP, qQ, qR, zI, qS, qC, qT, evSlice0, qV, qW, qX, qY, qZ, zJ, zK, zL, wit, Option.isSome_some, qH, xJ, evPre, St.with, zD, Array.size, evLitX, evAppX, evCold, nameT, te, einl, inls, efr]) ?_
    rintro ⟨k, hk⟩
    dsimp only
    have w3 : IntKind.i64.wrap ((k : Int) + 1) = ((k + 1 : Nat) : Int) := by rw [wrap_in (by omega)]; omega
    by_cases hkt : (k : Int) < (l.length : Int)
    · have g0 : k < l.length := by omega
      have g1 : l[k]? = some l[k] := List.getElem?_eq_getElem g0
      have g2 := (validA_len hl).2 l[k] (List.getElem_mem g0)
      generalize l[k] = a at *
      have g3 := offs_get (expand xs) l 0 k
      rw [g1, Option.map_some, Nat.zero_add] at g3
      have b4 := bits_len (expand xs).length (fitA (expand xs) a)
      have bw := bestW_some (ms := expand xs) (vs := valsW (expand xs) l n) (n := n + 1) g1
      have w4 : IntKind.i64.wrap (((n + 1 : Nat) : Int) - a.len) = ((n + 1 : Nat) : Int) - a.len := wrap_in (by omega)
      have bin := best_in hl (ms := expand xs) (vs := valsW (expand xs) l n) (n := n + 1) (by omega) (vals_len _ _ n) (fun i hi => vals_in hl n i (by omega)) k
      generalize hP : bestW (expand xs) l (valsW (expand xs) l n) (n + 1) k = P at *
      obtain ⟨pv, pl⟩ := P
      dsimp only at bin bw ⊢
      by_cases hf : 0 ≤ ((n + 1 : Nat) : Int) - a.len
      · obtain ⟨f, hF⟩ : ∃ f : Nat, ((n + 1 : Nat) : Int) - a.len = (f : Int) := ⟨(((n + 1 : Nat) : Int) - a.len).toNat, by omega⟩
        replace w4 := w4.trans hF
        rw [hF] at bw
        rw [Int.toNat_natCast] at bw
        have b1 := bits_get (expand xs).length (fitA (expand xs) a) (f := f) (by omega)
        have u3 : (0 ≤ (f : Int)) = True := eq_true (by omega)
        have u4 : ((f : Int) < (((expand xs).length + 1 : Nat) : Int)) = True := eq_true (by omega)
        have d6 : (pad (valsW (expand xs) l n ++ [pv]) ((expand xs).length - n - 1))[f]? = some (.int .i64 (at0 (valsW (expand xs) l n) f)) := by
          rw [pad_get (by rw [List.length_append, vals_len]; simp; omega), at0_app (by rw [vals_len]; omega)]
        have d7 : (pad (valsW (expand xs) l n ++ [pv]) ((expand xs).length - n - 1))[n + 1]? = some (.int .i64 pv) := by
          rw [pad_get (by rw [List.length_append, vals_len]; simp), at0_mid (by rw [vals_len])]
        have d8 : (pad (lastW (expand xs) l n ++ [pl]) ((expand xs).length - n - 1))[n + 1]? = some (.int .i64 pl) := by
          rw [pad_get (by rw [List.length_append, last_len]; simp), at0_mid (by rw [last_len])]
        have vin := vals_in hl (ms := expand xs) n f (by omega)
        have w9 : IntKind.i64.wrap (at0 (valsW (expand xs) l n) f + a.price) = at0 (valsW (expand xs) l n) f + a.price := wrap_in (by omega)
        cases hfit : fitA (expand xs) a f with
        | false =>
          rw [hfit] at b1 bw
          rw [if_neg (fun h => by cases h.1)] at bw
          simp (maxSteps := 1000000) (implicitDefEqProofs := false) only [hkt, w3, w4, u2, u3, u4, b1, b4, g3, g4, encOffer, obB, obI, Int.natCast_nonneg, Int.toNat_natCast, ss, sd, zH, qG, zF, zG, St.get, qE, qF, qB, zC, norm, look, zE, qA, qI, St.alloc, St.drop, zA, part, zB, depth, qD, ↓reduceIte, Nat.reduceBEq, Nat.reduceAdd, Nat.reduceSub, Nat.reduceMul, Nat.reduceEqDiff, Nat.reduceLeDiff, Nat.reduceLT, qJ, qK, qL, qM, qN, qO, qP, qQ, qR, zI, qS, qC, qT, evSlice0, qV, qW, qX, qY, qZ, zJ, zK, zL, wit, Option.isSome_some, qH, xJ, evPre, St.with, zD, Array.size, evLitX, evAppX, evCold, nameT, te, einl, inls, efr]
          rw [evRegion_dynB]
          rotate_left
          · rfl
          simp (maxSteps := 1000000) (implicitDefEqProofs := false) only [hkt, w3, w4, u2, u3, u4, b1, b4, g3, g4, encOffer, obB, obI, Int.natCast_nonneg, Int.toNat_natCast, ss, sd, zH, qG, zF, zG, St.get, qE, qF, qB, zC, norm, look, zE, qA, qI, St.alloc, St.drop, zA, part, zB, depth, qD, ↓reduceIte, Nat.reduceBEq, Nat.reduceAdd, Nat.reduceSub, Nat.reduceMul, Nat.reduceEqDiff, Nat.reduceLeDiff, Nat.reduceLT, qJ, qK, qL, qM, qN, qO, qP, qQ, qR, zI, qS, qC, qT, evSlice0, qV, qW, qX, qY, qZ, zJ, zK, zL, wit, Option.isSome_some, qH, xJ, evPre, St.with, zD, Array.size, evLitX, evAppX, evCold, nameT, te, einl, inls, efr]
          exact ⟨⟨k + 1, by omega⟩, by dsimp only; rw [bw], by dsimp only; omega⟩
        | true =>
          rw [hfit] at b1 bw
          by_cases hc : pv < at0 (valsW (expand xs) l n) f + a.price
          · rw [if_pos ⟨rfl, hc⟩] at bw
            have d9 : (pad (valsW (expand xs) l n ++ [pv]) ((expand xs).length - n - 1)).set (n + 1) (.int .i64 (at0 (valsW (expand xs) l n) f + a.price)) = pad (valsW (expand xs) l n ++ [at0 (valsW (expand xs) l n) f + a.price]) ((expand xs).length - n - 1) := pad_set_last (by rw [vals_len])
            have d10 : (pad (lastW (expand xs) l n ++ [pl]) ((expand xs).length - n - 1)).set (n + 1) (.int .i64 k) = pad (lastW (expand xs) l n ++ [(k : Int)]) ((expand xs).length - n - 1) := pad_set_last (by rw [last_len])
            simp (maxSteps := 1000000) (implicitDefEqProofs := false) only [hkt, w3, w4, w9, u2, u3, u4, b1, b4, d6, d7, d8, d9, d10, hc, g3, g4, encOffer, obB, obI, Int.natCast_nonneg, Int.toNat_natCast, ss, sd, zH, qG, zF, zG, St.get, qE, qF, qB, zC, norm, look, zE, qA, qI, St.alloc, St.drop, zA, part, zB, depth, qD, ↓reduceIte, Nat.reduceBEq, Nat.reduceAdd, Nat.reduceSub, Nat.reduceMul, Nat.reduceEqDiff, Nat.reduceLeDiff, Nat.reduceLT, qJ, qK, qL, qM, qN, qO, qP, qQ, qR, zI, qS, qC, qT, evSlice0, qV, qW, qX, qY, qZ, zJ, zK, zL, wit, Option.isSome_some, qH, xJ, evPre, St.with, zD, Array.size, evLitX, evAppX, evCold, nameT, te, einl, inls, efr]
            rw [evRegion_dynB]
            rotate_left
            · rfl
            simp (maxSteps := 1000000) (implicitDefEqProofs := false) only [hkt, w3, w4, w9, u2, u3, u4, b1, b4, d6, d7, d8, d9, d10, hc, g3, g4, encOffer, obB, obI, Int.natCast_nonneg, Int.toNat_natCast, ss, sd, zH, qG, zF, zG, St.get, qE, qF, qB, zC, norm, look, zE, qA, qI, St.alloc, St.drop, zA, part, zB, depth, qD, ↓reduceIte, Nat.reduceBEq, Nat.reduceAdd, Nat.reduceSub, Nat.reduceMul, Nat.reduceEqDiff, Nat.reduceLeDiff, Nat.reduceLT, qJ, qK, qL, qM, qN, qO, qP, qQ, qR, zI, qS, qC, qT, evSlice0, qV, qW, qX, qY, qZ, zJ, zK, zL, wit, Option.isSome_some, qH, xJ, evPre, St.with, zD, Array.size, evLitX, evAppX, evCold, nameT, te, einl, inls, efr]
            rw [evRegion_dynB]
            rotate_left
            · rfl
            simp (maxSteps := 1000000) (implicitDefEqProofs := false) only [hkt, w3, w4, w9, u2, u3, u4, b1, b4, d6, d7, d8, d9, d10, hc, g3, g4, encOffer, obB, obI, Int.natCast_nonneg, Int.toNat_natCast, ss, sd, zH, qG, zF, zG, St.get, qE, qF, qB, zC, norm, look, zE, qA, qI, St.alloc, St.drop, zA, part, zB, depth, qD, ↓reduceIte, Nat.reduceBEq, Nat.reduceAdd, Nat.reduceSub, Nat.reduceMul, Nat.reduceEqDiff, Nat.reduceLeDiff, Nat.reduceLT, qJ, qK, qL, qM, qN, qO, qP, qQ, qR, zI, qS, qC, qT, evSlice0, qV, qW, qX, qY, qZ, zJ, zK, zL, wit, Option.isSome_some, qH, xJ, evPre, St.with, zD, Array.size, evLitX, evAppX, evCold, nameT, te, einl, inls, efr]
            exact ⟨⟨k + 1, by omega⟩, by dsimp only; rw [bw], by dsimp only; omega⟩
          · rw [if_neg (fun h => hc h.2)] at bw
            simp (maxSteps := 1000000) (implicitDefEqProofs := false) only [hkt, w3, w4, w9, u2, u3, u4, b1, b4, d6, d7, d8, hc, g3, g4, encOffer, obB, obI, Int.natCast_nonneg, Int.toNat_natCast, ss, sd, zH, qG, zF, zG, St.get, qE, qF, qB, zC, norm, look, zE, qA, qI, St.alloc, St.drop, zA, part, zB, depth, qD, ↓reduceIte, Nat.reduceBEq, Nat.reduceAdd, Nat.reduceSub, Nat.reduceMul, Nat.reduceEqDiff, Nat.reduceLeDiff, Nat.reduceLT, qJ, qK, qL, qM, qN, qO, qP, qQ, qR, zI, qS, qC, qT, evSlice0, qV, qW, qX, qY, qZ, zJ, zK, zL, wit, Option.isSome_some, qH, xJ, evPre, St.with, zD, Array.size, evLitX, evAppX, evCold, nameT, te, einl, inls, efr]
            rw [evRegion_dynB]
            rotate_left
            · rfl
            simp (maxSteps := 1000000) (implicitDefEqProofs := false) only [hkt, w3, w4, w9, u2, u3, u4, b1, b4, d6, d7, d8, hc, g3, g4, encOffer, obB, obI, Int.natCast_nonneg, Int.toNat_natCast, ss, sd, zH, qG, zF, zG, St.get, qE, qF, qB, zC, norm, look, zE, qA, qI, St.alloc, St.drop, zA, part, zB, depth, qD, ↓reduceIte, Nat.reduceBEq, Nat.reduceAdd, Nat.reduceSub, Nat.reduceMul, Nat.reduceEqDiff, Nat.reduceLeDiff, Nat.reduceLT, qJ, qK, qL, qM, qN, qO, qP, qQ, qR, zI, qS, qC, qT, evSlice0, qV, qW, qX, qY, qZ, zJ, zK, zL, wit, Option.isSome_some, qH, xJ, evPre, St.with, zD, Array.size, evLitX, evAppX, evCold, nameT, te, einl, inls, efr]
            exact ⟨⟨k + 1, by omega⟩, by dsimp only; rw [bw], by dsimp only; omega⟩
      · have hfit : ¬ fitA (expand xs) a (((n + 1 : Nat) : Int) - a.len) = true := by
          intro h
          unfold fitA at h
          simp only [Bool.and_eq_true, decide_eq_true_eq] at h
          exact hf h.1
        rw [if_neg (fun h => hfit h.1)] at bw
        simp (maxSteps := 1000000) (implicitDefEqProofs := false) only [hkt, w3, w4, g3, g4, hf, encOffer, obB, obI, Int.natCast_nonneg, Int.toNat_natCast, ss, sd, zH, qG, zF, zG, St.get, qE, qF, qB, zC, norm, look, zE, qA, qI, St.alloc, St.drop, zA, part, zB, depth, qD, ↓reduceIte, Nat.reduceBEq, Nat.reduceAdd, Nat.reduceSub, Nat.reduceMul, Nat.reduceEqDiff, Nat.reduceLeDiff, Nat.reduceLT, qJ, qK, qL, qM, qN, qO, qP, qQ, qR, zI, qS, qC, qT, evSlice0, qV, qW, qX, qY, qZ, zJ, zK, zL, wit, Option.isSome_some, qH, xJ, evPre, St.with, zD, Array.size, evLitX, evAppX, evCold, nameT, te, einl, inls, efr]
        rw [evRegion_dynB]
        rotate_left
        · rfl
        simp (maxSteps := 1000000) (implicitDefEqProofs := false) only [hkt, w3, w4, g3, g4, hf, encOffer, obB, obI, Int.natCast_nonneg, Int.toNat_natCast, ss, sd, zH, qG, zF, zG, St.get, qE, qF, qB, zC, norm, look, zE, qA, qI, St.alloc, St.drop, zA, part, zB, depth, qD, ↓reduceIte, Nat.reduceBEq, Nat.reduceAdd, Nat.reduceSub, Nat.reduceMul, Nat.reduceEqDiff, Nat.reduceLeDiff, Nat.reduceLT, qJ, qK, qL, qM, qN, qO, qP, qQ, qR, zI, qS, qC, qT, evSlice0, qV, qW, qX, qY, qZ, zJ, zK, zL, wit, Option.isSome_some, qH, xJ, evPre, St.with, zD, Array.size, evLitX, evAppX, evCold, nameT, te, einl, inls, efr]
        exact ⟨⟨k + 1, by omega⟩, by dsimp only; rw [bw], by dsimp only; omega⟩
    · obtain rfl : k = l.length := by omega
      simp (maxSteps := 1000000) (implicitDefEqProofs := false) only [hkt, w2, obB, obI, ss, sd, zH, qG, zF, zG, St.get, qE, qF, qB, zC, norm, look, zE, qA, qI, St.alloc, St.drop, zA, part, zB, depth, qD, ↓reduceIte, Nat.reduceBEq, Nat.reduceAdd, Nat.reduceSub, Nat.reduceMul, Nat.reduceEqDiff, Nat.reduceLeDiff, Nat.reduceLT, qJ, qK, qL, qM, qN, qO, qP, qQ, qR, zI, qS, qC, qT, evSlice0, qV, qW, qX, qY, qZ, zJ, zK, zL, wit, Option.isSome_some, qH, xJ, evPre, St.with, zD, Array.size, evLitX, evAppX, evCold, nameT, te, einl, inls, efr]
      refine ⟨⟨n + 1, by omega⟩, ?_, by dsimp only; omega⟩
      rw [vals_succ, last_succ, show (expand xs).length - (n + 1) = (expand xs).length - n - 1 by omega]
  · obtain rfl : n = (expand xs).length := by omega
    have e1 : pad (valsW (expand xs) l (expand xs).length) 0 = (valsW (expand xs) l (expand xs).length).map vI := by simp [pad]
    have e2 : pad (lastW (expand xs) l (expand xs).length) 0 = (lastW (expand xs) l (expand xs).length).map vI := by simp [pad]
    have e3 : ((valsW (expand xs) l (expand xs).length).map vI).take ((expand xs).length + 1) = (valsW (expand xs) l (expand xs).length).map vI := List.take_of_length_le (by rw [List.length_map, vals_len]; omega)
    have e4 : ((lastW (expand xs) l (expand xs).length).map vI).take ((expand xs).length + 1) = (lastW (expand xs) l (expand xs).length).map vI := List.take_of_length_le (by rw [List.length_map, last_len]; omega)
    simp (maxSteps := 1000000) (implicitDefEqProofs := false) only [hlt, Nat.sub_self, e1, e2, e3, e4, obB, obI, List.drop_zero, Nat.zero_add, vals_len, last_len, List.length_map, Nat.le_refl, Try.ntmps55, Try.results55, efc55, fc55, ss, sd, zH, qG, zF, zG, St.get, qE, qF, qB, zC, norm, look, zE, qA, qI, St.alloc, St.drop, zA, part, zB, depth, qD, ↓reduceIte, Nat.reduceBEq, Nat.reduceAdd, Nat.reduceSub, Nat.reduceMul, Nat.reduceEqDiff, Nat.reduceLeDiff, Nat.reduceLT, qJ, qK, qL, qM, qN, qO, qP, qQ, qR, zI, qS, qC, qT, evSlice0, qV, qW, qX, qY, qZ, zJ, zK, zL, wit, Option.isSome_some, qH, xJ, evPre, St.with, zD, Array.size, evLitX, evAppX, evCold, nameT, te, einl, inls, efr]

end Go.AM.C

