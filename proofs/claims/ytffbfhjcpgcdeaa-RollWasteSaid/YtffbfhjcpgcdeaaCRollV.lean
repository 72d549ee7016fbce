import Derived.Test.YtffbfhjcpgcdeaaCRollU
set_option linter.unusedSimpArgs false

namespace Go.AM.C
open Go Go.Proofs

theorem bestR_ok {xs : List Run} {l : List Art} (he : errM xs l = 0) : bestR xs l = (bestPs (expand xs) l, topW (expand xs) l, 0) := by
  unfold bestR topW; rw [if_pos he]

theorem c11 (xs : List Run) (l : List Art) (t : Int) : (orcω E X0).call 11 [.sl false (xs.map encRun), .sl false (l.map encArt), .int .i64 t] = some (.bool true) := by
  refine call_of rfl fn11 rfl ?_
  have k1 := c16 xs l false []
  cases hlong : long xs l 0 with
  | true =>
    rw [List.length_nil, hlong] at k1
    simp (maxSteps := 1000000) (implicitDefEqProofs := false) only [Try.ntmps11, Try.results11, efc11, k1, c17, ss, List.replicate, evOp, evPlain, evVal, evMem, St.eval, St.put, St.get, constV, List.set, lenV, sliceOf, arrayOf, fieldsOf, normOf, norm, firstRegion, look, maskFrom, evBin, evIndexS, evLoad, evVar, evStore, evFieldAddr, nameOf, St.alloc, St.drop, killL, kill, killAll, killObs, killOb, upd, cells?, part, retag, retagL, putIn, refFree, refFreeL, isNew, isNewL, Ty.isAgg, splice, idsL, ids, idsLL, reach, depth, St.dropL, resultsV, resultV, ↓reduceIte, Nat.reduceBEq, Nat.reduceAdd, Nat.reduceSub, Nat.reduceMul, Nat.reduceEqDiff, Nat.reduceLeDiff, Nat.reduceLT, effOf, effMem, effStore, effCall, effVar, effLit, effMake, effApp, Eff.ap, lend, evLit, evMake, evNil, freeze, onto, dropO, elemsV, sized, evCmp, eqT, eqG, minV, evUn, evField, evExtract, evIndexA, evIndexV, evSlice, optInt, fillV, placeOf, thawed, del, isNilSlice, plain, plainL, cellsJ, junkOk, St.with, setSlots, setObs, wantedD, seqOf, noRange, setAll, Array.size, te, einl, inls]
  | false =>
    rw [List.length_nil, hlong] at k1
    unfold long at hlong
    simp only [Bool.or_eq_false_iff, decide_eq_false_iff_not] at hlong
    have k2 := c29 xs l (by omega) (by omega)
    have k3 := c39 false xs (by omega)
    have k4 := c40 xs 0 t (by omega)
    have k5 := c40 xs t (lengthM xs).1 (by omega)
    by_cases he : errM xs l = 0
    · obtain ⟨e1, e2, e3⟩ := errM_zero he
      have hN := err_len he
      have e4 := expand_len (valid_okay e1).1
      rw [bestR_ok he] at k2
      rw [lengthM_zero e1] at k3 k5
      simp only [encBest, encLen] at k2 k3
      dsimp only at k5
      by_cases hs1 : spanM xs 0 t = true
      · obtain ⟨s1, s2, s3⟩ := (span_of e1).1 hs1
        have hs2 : spanM xs t (total xs) = true := (span_of e1).2 (by omega)
        have p1 := part_err he hs1
        have p2 := part_err he hs2
        have q1 := (slice_valid e1 hs1).2
        have q2 := (slice_valid e1 hs2).2
        have m1 := slice_len e1 hs1
        have m2 := slice_len e1 hs2
        rw [slice_rle e1 hs1] at k4
        rw [slice_rle e1 hs2] at k5
        have k6 := c29 (rle (((expand xs).take t.toNat).drop (0 : Int).toNat)) l (by omega) (by omega)
        have k7 := c29 (rle (((expand xs).take (total xs).toNat).drop t.toNat)) l (by omega) (by omega)
        rw [bestR_ok p1, q1] at k6
        rw [bestR_ok p2, q2] at k7
        have r1 : ((expand xs).take t.toNat).drop (0 : Int).toNat = (expand xs).take t.toNat := by simp
        have r2 : ((expand xs).take (total xs).toNat).drop t.toNat = (expand xs).drop t.toNat := by rw [List.take_of_length_le (by omega)]
        rw [r1] at k4 k6
        rw [r2] at k5 k7
        have sp := split_le e3 hN (ms := expand xs) (t := t.toNat) (by omega)
        have t1 := topW_pos (ms := (expand xs).take t.toNat) e3
        have t2 := topW_pos (ms := (expand xs).drop t.toNat) e3
        have t3 : ((expand xs).take t.toNat).length ≤ 300 := by rw [List.length_take]; omega
        have t4 : ((expand xs).drop t.toNat).length ≤ 300 := by rw [List.length_drop]; omega
        simp only [encBest, encRes] at k4 k5 k6 k7
        generalize rle ((expand xs).take t.toNat) = A at *
        generalize rle ((expand xs).drop t.toNat) = B at *
        generalize topW ((expand xs).take t.toNat) l = p at *
        generalize topW ((expand xs).drop t.toNat) l = q at *
        have w1 : IntKind.i64.wrap (p + q) = p + q := wrap_in (by omega)
        have n1 : ¬ topW (expand xs) l < p + q := by omega
        have n2 : ¬ topW (expand xs) l < p := by omega
        have n3 : ¬ topW (expand xs) l < q := by omega
        by_cases hlen : (0 : Int) < (l.length : Int)
        · have k8 := c29 xs (l.take (l.length - 1)) (by omega) (by rw [List.length_take]; omega)
          have he2 : errM xs (l.take (l.length - 1)) = 0 := by
            unfold errM
            rw [if_pos e1, if_neg (by omega)]
            exact validA_take _ e3
          rw [bestR_ok he2] at k8
          have n4 := fewer_le e3 hN (ms := expand xs) (l.length - 1)
          simp only [encBest] at k8
          generalize topW (expand xs) (l.take (l.length - 1)) = z at *
          have n5 : ¬ topW (expand xs) l < z := by omega
          have w2 : IntKind.i64.wrap ((l.length : Int) - 1) = (l.length : Int) - 1 := wrap_in (by omega)
          have d1 : ((l.length : Int) - 1).toNat = l.length - 1 := by omega
          have d2 : (l.map encArt).take (l.length - 1) = (l.take (l.length - 1)).map encArt := by rw [List.map_take]
          have d3 := sized_art l
          have u1 : (0 ≤ (l.length : Int) - 1) = True := eq_true (by omega)
          have u2 : ((l.length : Int) - 1 ≤ (l.length : Int)) = True := eq_true (by omega)
          have d4 : ((l.length : Int) - 1 - 0) = (l.length : Int) - 1 := by omega
          simp (maxSteps := 1000000) (implicitDefEqProofs := false) only [Try.ntmps11, Try.results11, efc11, k1, k2, k3, k4, k5, k6, k7, k8, w1, w2, n1, n2, n3, n5, hlen, d1, d2, d3, d4, u1, u2, Int.le_refl, Int.toNat_zero, List.drop_zero, c17, bne_self_eq_false, beq_self_eq_true, ss, List.replicate, evOp, evPlain, evVal, evMem, St.eval, St.put, St.get, constV, List.set, lenV, sliceOf, arrayOf, fieldsOf, normOf, norm, firstRegion, look, maskFrom, evBin, evIndexS, evLoad, evVar, evStore, evFieldAddr, nameOf, St.alloc, St.drop, killL, kill, killAll, killObs, killOb, upd, cells?, part, retag, retagL, putIn, refFree, refFreeL, isNew, isNewL, Ty.isAgg, splice, idsL, ids, idsLL, reach, depth, St.dropL, resultsV, resultV, ↓reduceIte, Nat.reduceBEq, Nat.reduceAdd, Nat.reduceSub, Nat.reduceMul, Nat.reduceEqDiff, Nat.reduceLeDiff, Nat.reduceLT, effOf, effMem, effStore, effCall, effVar, effLit, effMake, effApp, Eff.ap, lend, evLit, evMake, evNil, freeze, onto, dropO, elemsV, sized, evCmp, eqT, eqG, minV, evUn, evField, evExtract, evIndexA, evIndexV, evSlice, optInt, fillV, placeOf, thawed, del, isNilSlice, plain, plainL, cellsJ, junkOk, St.with, setSlots, setObs, wantedD, seqOf, noRange, setAll, Array.size, te, einl, inls]
        · simp (maxSteps := 1000000) (implicitDefEqProofs := false) only [Try.ntmps11, Try.results11, efc11, k1, k2, k3, k4, k5, k6, k7, w1, n1, n2, n3, hlen, c17, bne_self_eq_false, beq_self_eq_true, ss, List.replicate, evOp, evPlain, evVal, evMem, St.eval, St.put, St.get, constV, List.set, lenV, sliceOf, arrayOf, fieldsOf, normOf, norm, firstRegion, look, maskFrom, evBin, evIndexS, evLoad, evVar, evStore, evFieldAddr, nameOf, St.alloc, St.drop, killL, kill, killAll, killObs, killOb, upd, cells?, part, retag, retagL, putIn, refFree, refFreeL, isNew, isNewL, Ty.isAgg, splice, idsL, ids, idsLL, reach, depth, St.dropL, resultsV, resultV, ↓reduceIte, Nat.reduceBEq, Nat.reduceAdd, Nat.reduceSub, Nat.reduceMul, Nat.reduceEqDiff, Nat.reduceLeDiff, Nat.reduceLT, effOf, effMem, effStore, effCall, effVar, effLit, effMake, effApp, Eff.ap, lend, evLit, evMake, evNil, freeze, onto, dropO, elemsV, sized, evCmp, eqT, eqG, minV, evUn, evField, evExtract, evIndexA, evIndexV, evSlice, optInt, fillV, placeOf, thawed, del, isNilSlice, plain, plainL, cellsJ, junkOk, St.with, setSlots, setObs, wantedD, seqOf, noRange, setAll, Array.size, te, einl, inls]
      · have h4 := slice_err (rs := xs) (lo := 0) (hi := t) (fun h => hs1 h.2)
        have h4' : ((sliceM xs 0 t).2 != 0) = true := by simpa using h4
        simp only [encRes] at k4 k5
        generalize sliceM xs 0 t = U at *
        generalize sliceM xs t (total xs) = W at *
        obtain ⟨u, ue⟩ := U
        obtain ⟨w, we⟩ := W
        simp (maxSteps := 1000000) (implicitDefEqProofs := false) only [Try.ntmps11, Try.results11, efc11, k1, k2, k3, k4, k5, h4', c17, bne_self_eq_false, beq_self_eq_true, ss, List.replicate, evOp, evPlain, evVal, evMem, St.eval, St.put, St.get, constV, List.set, lenV, sliceOf, arrayOf, fieldsOf, normOf, norm, firstRegion, look, maskFrom, evBin, evIndexS, evLoad, evVar, evStore, evFieldAddr, nameOf, St.alloc, St.drop, killL, kill, killAll, killObs, killOb, upd, cells?, part, retag, retagL, putIn, refFree, refFreeL, isNew, isNewL, Ty.isAgg, splice, idsL, ids, idsLL, reach, depth, St.dropL, resultsV, resultV, ↓reduceIte, Nat.reduceBEq, Nat.reduceAdd, Nat.reduceSub, Nat.reduceMul, Nat.reduceEqDiff, Nat.reduceLeDiff, Nat.reduceLT, effOf, effMem, effStore, effCall, effVar, effLit, effMake, effApp, Eff.ap, lend, evLit, evMake, evNil, freeze, onto, dropO, elemsV, sized, evCmp, eqT, eqG, minV, evUn, evField, evExtract, evIndexA, evIndexV, evSlice, optInt, fillV, placeOf, thawed, del, isNilSlice, plain, plainL, cellsJ, junkOk, St.with, setSlots, setObs, wantedD, seqOf, noRange, setAll, Array.size, te, einl, inls]
    · have he' : (errM xs l != 0) = true := by simpa using he
      unfold bestR at k2
      rw [if_neg he] at k2
      generalize lengthM xs = L at *
      obtain ⟨n, f⟩ := L
      dsimp only at k5
      generalize sliceM xs 0 t = U at *
      generalize sliceM xs t n = W at *
      obtain ⟨u, ue⟩ := U
      obtain ⟨w, we⟩ := W
      simp only [encRes, encLen, encBest, List.map_nil] at k2 k3 k4 k5
      simp (maxSteps := 1000000) (implicitDefEqProofs := false) only [Try.ntmps11, Try.results11, efc11, k1, k2, k3, k4, k5, he', c17, bne_self_eq_false, beq_self_eq_true, ss, List.replicate, evOp, evPlain, evVal, evMem, St.eval, St.put, St.get, constV, List.set, lenV, sliceOf, arrayOf, fieldsOf, normOf, norm, firstRegion, look, maskFrom, evBin, evIndexS, evLoad, evVar, evStore, evFieldAddr, nameOf, St.alloc, St.drop, killL, kill, killAll, killObs, killOb, upd, cells?, part, retag, retagL, putIn, refFree, refFreeL, isNew, isNewL, Ty.isAgg, splice, idsL, ids, idsLL, reach, depth, St.dropL, resultsV, resultV, ↓reduceIte, Nat.reduceBEq, Nat.reduceAdd, Nat.reduceSub, Nat.reduceMul, Nat.reduceEqDiff, Nat.reduceLeDiff, Nat.reduceLT, effOf, effMem, effStore, effCall, effVar, effLit, effMake, effApp, Eff.ap, lend, evLit, evMake, evNil, freeze, onto, dropO, elemsV, sized, evCmp, eqT, eqG, minV, evUn, evField, evExtract, evIndexA, evIndexV, evSlice, optInt, fillV, placeOf, thawed, del, isNilSlice, plain, plainL, cellsJ, junkOk, St.with, setSlots, setObs, wantedD, seqOf, noRange, setAll, Array.size, te, einl, inls]

end Go.AM.C
