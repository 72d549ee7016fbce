import Derived.Test.YtffbfhjcpgcdeaaCRollN
set_option linter.unusedVariables false
set_option linter.unusedSimpArgs false
set_option maxRecDepth 20000

namespace Go.AM.C
open Go Go.Proofs

def worthR (xs : List Run) (l : List Art) : List Int × Int := if errM xs l = 0 then (valsW (expand xs) l (expand xs).length, 0) else ([], errM xs l)

theorem c27 (xs : List Run) (l : List Art) (hx : xs.length ≤ 100000) (hl : l.length ≤ 100000) : (orcω E X0).call 27 [.sl false (xs.map encRun), .sl false (l.map encArt)] = some (encIs (worthR xs l)) := by
  refine call_of rfl fn27 rfl ?_
  have k1 := c50 xs l hx hl
  unfold worthR
  by_cases he : errM xs l = 0
  · rw [benchV_eq he] at k1
    rw [if_pos he]
    have k2 := c55 xs l (errM_zero he).2.2 (err_len he)
    unfold benchA at k2
    simp (maxSteps := 1000000) (implicitDefEqProofs := false) only [Try.ntmps27, Try.results27, efc27, k1, k2, encIs, bne_self_eq_false, ss, sd, zH, qG, zF, zG, St.get, qE, qF, qB, zC, norm, look, zE, qA, qI, St.alloc, St.drop, zA, part, zB, depth, qD, ↓reduceIte, Nat.reduceBEq, Nat.reduceAdd, Nat.reduceSub, Nat.reduceMul, Nat.reduceEqDiff, Nat.reduceLeDiff, Nat.reduceLT, qJ, qK, qL, qM, qN, qO, qP, qQ, qR, zI, qS, qC, qT, evSlice0, qV, qW, qX, qY, qZ, zJ, zK, zL, wit, Option.isSome_some, qH, xJ, evPre, St.with, zD, Array.size, evLitX, evAppX, evCold, nameT, te, einl, inls, efr]
  · unfold layV at k1
    rw [if_neg he] at k1 ⊢
    have he' : (errM xs l != 0) = true := by simpa using he
    simp (maxSteps := 1000000) (implicitDefEqProofs := false) only [Try.ntmps27, Try.results27, efc27, k1, bench0, encIs, he', List.map_nil, ss, sd, zH, qG, zF, zG, St.get, qE, qF, qB, zC, norm, look, zE, qA, qI, St.alloc, St.drop, zA, part, zB, depth, qD, ↓reduceIte, Nat.reduceBEq, Nat.reduceAdd, Nat.reduceSub, Nat.reduceMul, Nat.reduceEqDiff, Nat.reduceLeDiff, Nat.reduceLT, qJ, qK, qL, qM, qN, qO, qP, qQ, qR, zI, qS, qC, qT, evSlice0, qV, qW, qX, qY, qZ, zJ, zK, zL, wit, Option.isSome_some, qH, xJ, evPre, St.with, zD, Array.size, evLitX, evAppX, evCold, nameT, te, einl, inls, efr]

theorem okT28 : okCode (Try.f28.body.getD .skip) = true := by decide +kernel

set_option maxHeartbeats 8000000 in
theorem c28 (xs : List Run) (l : List Art) (hx : xs.length ≤ 100000) (hl : l.length ≤ 100000) : (orcω E X0).call 28 [.sl false (xs.map encRun), .sl false (l.map encArt)] = some (encIs (worthR xs l)) := by
  refine call_of rfl fn28 rfl ?_
  have hok := okT28
  simp only [Try.f28, Option.getD_some, okCode, Bool.and_eq_true, Bool.and_true, Bool.true_and] at hok
  try simp only [and_assoc] at hok
  obtain ⟨hk1, hk2⟩ := hok
  have k1 := c52 xs l hx hl
  unfold marksM at k1
  unfold worthR
  by_cases he : errM xs l = 0
  · rw [if_pos he] at k1 ⊢
    simp only [encMks] at k1
    obtain ⟨e1, e2, e3⟩ := errM_zero he
    have hN := err_len he
    have l5 := (validA_len e3).1
    simp (maxSteps := 1000000) (implicitDefEqProofs := false) only [Try.ntmps28, Try.results28, efc28, fc28, k1, encIs, bne_self_eq_false, ss, sd, zH, qG, zF, zG, St.get, qE, qF, qB, zC, norm, look, zE, qA, qI, St.alloc, St.drop, zA, part, zB, depth, qD, ↓reduceIte, Nat.reduceBEq, Nat.reduceAdd, Nat.reduceSub, Nat.reduceMul, Nat.reduceEqDiff, Nat.reduceLeDiff, Nat.reduceLT, qJ, qK, qL, qM, qN, qO, qP, qQ, qR, zI, qS, qC, qT, evSlice0, qV, qW, qX, qY, qZ, zJ, zK, zL, wit, Option.isSome_some, qH, xJ, evPre, St.with, zD, Array.size, evLitX, evAppX, evCold, nameT, te, einl, inls, efr]
    generalize hr : loopAt _ _ _ _ _ _ = r; revert r
    refine loop_inv (ι := { n : Nat // n ≤ (expand xs).length }) (fun n => [(8, .own 8 0 (n.1 + 1)), (9, .int .i64 ((n.1 + 1 : Nat) : Int))]) (fun n => [(8, { es := 1, flat := true, t := true, app := true, elems := (valsW (expand xs) l n.1).map vI })]) (fun n => (expand xs).length - n.1) ⟨0, by omega⟩ (by simp (maxSteps := 1000000) (implicitDefEqProofs := false) only [Nat.zero_add, Int.natCast_one, valsW, worthL, List.map_cons, List.map_nil, vI, ss, sd, zH, qG, zF, zG, St.get, qE, qF, qB, zC, norm, look, zE, qA, qI, St.alloc, St.drop, zA, part, zB, depth, qD, ↓reduceIte, Nat.reduceBEq, Nat.reduceAdd, Nat.reduceSub, Nat.reduceMul, Nat.reduceEqDiff, Nat.reduceLeDiff, Nat.reduceLT, qJ, qK, qL, qM, qN, qO, qP, qQ, qR, zI, qS, qC, qT, evSlice0, qV, qW, qX, qY, qZ, zJ, zK, zL, wit, Option.isSome_some, qH, xJ, evPre, St.with, zD, Array.size, evLitX, evAppX, evCold, nameT, te, einl, inls, efr]; try rfl) ?_
    rintro ⟨n, hn⟩
    dsimp only
    by_cases hlt : ((n + 1 : Nat) : Int) ≤ ((expand xs).length : Int)
    · have d1 : ((valsW (expand xs) l n).map vI)[n]? = some (.int .i64 (at0 (valsW (expand xs) l n) n)) := by rw [List.getElem?_map, at0_get (by rw [vals_len]; omega)]; rfl
      have w1 : IntKind.i64.wrap (((n + 1 : Nat) : Int) - 1) = (n : Int) := by rw [wrap_in (by omega)]; omega
      have w2 : IntKind.i64.wrap (((n + 1 : Nat) : Int) + 1) = ((n + 1 + 1 : Nat) : Int) := by rw [wrap_in (by omega)]; omega
      have u1 : ((n : Int) < ((n + 1 : Nat) : Int)) = True := eq_true (by omega)
      have hvl := vals_len (expand xs) l n
      simp (maxSteps := 1000000) (implicitDefEqProofs := false) only [hlt, w1, d1, u1, hvl, List.length_map, Int.natCast_nonneg, Int.toNat_natCast, ss, sd, zH, qG, zF, zG, St.get, qE, qF, qB, zC, norm, look, zE, qA, qI, St.alloc, St.drop, zA, part, zB, depth, qD, ↓reduceIte, Nat.reduceBEq, Nat.reduceAdd, Nat.reduceSub, Nat.reduceMul, Nat.reduceEqDiff, Nat.reduceLeDiff, Nat.reduceLT, qJ, qK, qL, qM, qN, qO, qP, qQ, qR, zI, qS, qC, qT, evSlice0, qV, qW, qX, qY, qZ, zJ, zK, zL, wit, Option.isSome_some, qH, xJ, evPre, St.with, zD, Array.size, evLitX, evAppX, evCold, nameT, te, einl, inls, efr]
      generalize hr : loopAt _ _ _ _ _ _ = r; revert r
      refine loop_inv (ι := { k : Nat // k ≤ l.length }) (fun k => [(10, .int .i64 (bestW (expand xs) l (valsW (expand xs) l n) (n + 1) k.1).1), (11, .int .i64 k.1)]) (fun k => [(8, { es := 1, flat := true, t := true, app := true, elems := (valsW (expand xs) l n).map vI })]) (fun k => l.length - k.1) ⟨0, by omega⟩ (by simp (maxSteps := 1000000) (implicitDefEqProofs := false) only [bestW, Nat.add_sub_cancel, ss, sd, zH, qG, zF, zG, St.get, qE, qF, qB, zC, norm, look, zE, qA, qI, St.alloc, St.drop, zA, part, zB, depth, qD, ↓reduceIte, Nat.reduceBEq, Nat.reduceAdd, Nat.reduceSub, Nat.reduceMul, Nat.reduceEqDiff, Nat.reduceLeDiff, Nat.reduceLT, qJ, qK, qL, qM, qN, qO, qP, qQ, qR, zI, qS, qC, qT, evSlice0, qV, qW, qX, qY, qZ, zJ, zK, zL, wit, Option.isSome_some, qH, xJ, evPre, St.with, zD, Array.size, evLitX, evAppX, evCold, nameT, te, einl, inls, efr]) ?_
      rintro ⟨k, hk⟩
      dsimp only
      have w3 : IntKind.i64.wrap ((k : Int) + 1) = ((k + 1 : Nat) : Int) := by rw [wrap_in (by omega)]; omega
      by_cases hkt : (k : Int) < (l.length : Int)
      · have g0 : k < l.length := by omega
        have g1 : l[k]? = some l[k] := List.getElem?_eq_getElem g0
        have g2 := (validA_len e3).2 l[k] (List.getElem_mem g0)
        generalize l[k] = a at *
        have bw := bestW_some (ms := expand xs) (vs := valsW (expand xs) l n) (n := n + 1) g1
        have w4 : IntKind.i64.wrap (((n + 1 : Nat) : Int) - a.len) = ((n + 1 : Nat) : Int) - a.len := wrap_in (by omega)
        have k2 := c53 (expand xs) l (((n + 1 : Nat) : Int) - a.len) k (by omega) e3
        rw [fitsM_some (by omega) (by rw [Int.toNat_natCast]; exact g1)] at k2
        generalize hP : bestW (expand xs) l (valsW (expand xs) l n) (n + 1) k = P at *
        obtain ⟨pv, pl⟩ := P
        dsimp only at bw ⊢
        cases hfit : fitA (expand xs) a (((n + 1 : Nat) : Int) - a.len) with
        | false =>
          rw [hfit] at bw k2
          rw [if_neg (fun h => by cases h.1)] at bw
          simp (maxSteps := 1000000) (implicitDefEqProofs := false) only [hkt, w3, w4, g1, k2, encArt, List.getElem?_map, Int.natCast_nonneg, Int.toNat_natCast, evRegion_st hk1, evRegion_st hk2, ss, sd, zH, qG, zF, zG, St.get, qE, qF, qB, zC, norm, look, zE, qA, qI, St.alloc, St.drop, zA, part, zB, depth, qD, ↓reduceIte, Nat.reduceBEq, Nat.reduceAdd, Nat.reduceSub, Nat.reduceMul, Nat.reduceEqDiff, Nat.reduceLeDiff, Nat.reduceLT, qJ, qK, qL, qM, qN, qO, qP, qQ, qR, zI, qS, qC, qT, evSlice0, qV, qW, qX, qY, qZ, zJ, zK, zL, wit, Option.isSome_some, qH, xJ, evPre, St.with, zD, Array.size, evLitX, evAppX, evCold, nameT, te, einl, inls, efr]
          exact ⟨⟨k + 1, by omega⟩, by dsimp only; rw [bw], by dsimp only; omega⟩
        | true =>
          have h9 := hfit
          unfold fitA at h9
          simp only [Bool.and_eq_true, decide_eq_true_eq] at h9
          have hF0 := h9.1
          obtain ⟨f, hF⟩ : ∃ f : Nat, ((n + 1 : Nat) : Int) - a.len = (f : Int) := ⟨(((n + 1 : Nat) : Int) - a.len).toNat, by omega⟩
          replace w4 := w4.trans hF
          rw [hfit] at bw k2
          rw [hF] at bw k2
          rw [Int.toNat_natCast] at bw
          have d6 : ((valsW (expand xs) l n).map vI)[f]? = some (.int .i64 (at0 (valsW (expand xs) l n) f)) := by rw [List.getElem?_map, at0_get (by rw [vals_len]; omega)]; rfl
          have d6' : (valsW (expand xs) l n)[f]? = some (at0 (valsW (expand xs) l n) f) := at0_get (by rw [vals_len]; omega)
          have u4 : ((f : Int) < ((n + 1 : Nat) : Int)) = True := eq_true (by omega)
          have vin := vals_in e3 (ms := expand xs) n f (by omega)
          have w9 : IntKind.i64.wrap (at0 (valsW (expand xs) l n) f + a.price) = at0 (valsW (expand xs) l n) f + a.price := wrap_in (by omega)
          by_cases hc : pv < at0 (valsW (expand xs) l n) f + a.price
          · rw [if_pos ⟨rfl, hc⟩] at bw
            simp (maxSteps := 1000000) (implicitDefEqProofs := false) only [hkt, w3, w4, w9, g1, k2, d6', u4, hc, vI, encArt, List.getElem?_map, Int.natCast_nonneg, Int.toNat_natCast, evRegion_st hk1, evRegion_st hk2, ss, sd, zH, qG, zF, zG, St.get, qE, qF, qB, zC, norm, look, zE, qA, qI, St.alloc, St.drop, zA, part, zB, depth, qD, ↓reduceIte, Nat.reduceBEq, Nat.reduceAdd, Nat.reduceSub, Nat.reduceMul, Nat.reduceEqDiff, Nat.reduceLeDiff, Nat.reduceLT, qJ, qK, qL, qM, qN, qO, qP, qQ, qR, zI, qS, qC, qT, evSlice0, qV, qW, qX, qY, qZ, zJ, zK, zL, wit, Option.isSome_some, qH, xJ, evPre, St.with, zD, Array.size, evLitX, evAppX, evCold, nameT, te, einl, inls, efr]
            exact ⟨⟨k + 1, by omega⟩, by dsimp only; rw [bw], by dsimp only; omega⟩
          · rw [if_neg (fun h => hc h.2)] at bw
            simp (maxSteps := 1000000) (implicitDefEqProofs := false) only [hkt, w3, w4, w9, g1, k2, d6', u4, hc, vI, encArt, List.getElem?_map, Int.natCast_nonneg, Int.toNat_natCast, evRegion_st hk1, evRegion_st hk2, ss, sd, zH, qG, zF, zG, St.get, qE, qF, qB, zC, norm, look, zE, qA, qI, St.alloc, St.drop, zA, part, zB, depth, qD, ↓reduceIte, Nat.reduceBEq, Nat.reduceAdd, Nat.reduceSub, Nat.reduceMul, Nat.reduceEqDiff, Nat.reduceLeDiff, Nat.reduceLT, qJ, qK, qL, qM, qN, qO, qP, qQ, qR, zI, qS, qC, qT, evSlice0, qV, qW, qX, qY, qZ, zJ, zK, zL, wit, Option.isSome_some, qH, xJ, evPre, St.with, zD, Array.size, evLitX, evAppX, evCold, nameT, te, einl, inls, efr]
            exact ⟨⟨k + 1, by omega⟩, by dsimp only; rw [bw], by dsimp only; omega⟩
      · obtain rfl : k = l.length := by omega
        have hroom : roomy (n + 1 + 1) 8 = true := by simp [roomy]; omega
        have hbig : n + 1 + 1 ≤ 4294967296 := by omega
        simp (maxSteps := 1000000) (implicitDefEqProofs := false) only [hkt, w2, hvl, hroom, hbig, List.length_map, ss, sd, zH, qG, zF, zG, St.get, qE, qF, qB, zC, norm, look, zE, qA, qI, St.alloc, St.drop, zA, part, zB, depth, qD, ↓reduceIte, Nat.reduceBEq, Nat.reduceAdd, Nat.reduceSub, Nat.reduceMul, Nat.reduceEqDiff, Nat.reduceLeDiff, Nat.reduceLT, qJ, qK, qL, qM, qN, qO, qP, qQ, qR, zI, qS, qC, qT, evSlice0, qV, qW, qX, qY, qZ, zJ, zK, zL, wit, Option.isSome_some, qH, xJ, evPre, St.with, zD, Array.size, evLitX, evAppX, evCold, nameT, te, einl, inls, efr]
        refine ⟨⟨n + 1, by omega⟩, ?_, by dsimp only; omega⟩
        rw [vals_succ, List.map_append]
        rfl
    · obtain rfl : n = (expand xs).length := by omega
      have e3 : ((valsW (expand xs) l (expand xs).length).map vI).take ((expand xs).length + 1) = (valsW (expand xs) l (expand xs).length).map vI := List.take_of_length_le (by rw [List.length_map, vals_len]; omega)
      simp (maxSteps := 1000000) (implicitDefEqProofs := false) only [hlt, e3, List.drop_zero, Nat.zero_add, vals_len, List.length_map, Nat.le_refl, Try.ntmps28, Try.results28, efc28, fc28, ss, sd, zH, qG, zF, zG, St.get, qE, qF, qB, zC, norm, look, zE, qA, qI, St.alloc, St.drop, zA, part, zB, depth, qD, ↓reduceIte, Nat.reduceBEq, Nat.reduceAdd, Nat.reduceSub, Nat.reduceMul, Nat.reduceEqDiff, Nat.reduceLeDiff, Nat.reduceLT, qJ, qK, qL, qM, qN, qO, qP, qQ, qR, zI, qS, qC, qT, evSlice0, qV, qW, qX, qY, qZ, zJ, zK, zL, wit, Option.isSome_some, qH, xJ, evPre, St.with, zD, Array.size, evLitX, evAppX, evCold, nameT, te, einl, inls, efr]
  · rw [if_neg he] at k1 ⊢
    simp only [encMks] at k1
    have he' : (errM xs l != 0) = true := by simpa using he
    simp (maxSteps := 1000000) (implicitDefEqProofs := false) only [Try.ntmps28, Try.results28, efc28, fc28, k1, encIs, he', List.map_nil, ss, sd, zH, qG, zF, zG, St.get, qE, qF, qB, zC, norm, look, zE, qA, qI, St.alloc, St.drop, zA, part, zB, depth, qD, ↓reduceIte, Nat.reduceBEq, Nat.reduceAdd, Nat.reduceSub, Nat.reduceMul, Nat.reduceEqDiff, Nat.reduceLeDiff, Nat.reduceLT, qJ, qK, qL, qM, qN, qO, qP, qQ, qR, zI, qS, qC, qT, evSlice0, qV, qW, qX, qY, qZ, zJ, zK, zL, wit, Option.isSome_some, qH, xJ, evPre, St.with, zD, Array.size, evLitX, evAppX, evCold, nameT, te, einl, inls, efr]

end Go.AM.C

