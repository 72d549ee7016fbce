import Derived.Test.YtdipdaajicceoaaABandAD
set_option linter.unusedSimpArgs false

namespace Go.AM.A
open Go Go.Proofs

theorem sized_mk (l : List Mk) : sized 3 (l.map encMk) = true := sized_map (fun m => ⟨[.int .i64 m.thick, .int .i64 m.shade, .int .i64 m.flaw], rfl, rfl⟩) l

set_option maxRecDepth 100000 in
set_option maxHeartbeats 16000000 in
theorem c15 (xs ys : List Run) (lo hi fl th : Int) : (orcω E X0).call 15 [.sl false (xs.map encRun), .sl false (ys.map encRun), .agg [.int .i64 lo, .int .i64 hi, .int .i64 fl, .int .i64 th]] = some (.bool true) := by
  refine call_of rfl fn15 rfl ?_
  have k0 := c21 false [⟨7, 1, 0, 0⟩] (by simp)
  rw [show lengthM [⟨7, 1, 0, 0⟩] = (7, 0) by decide] at k0
  simp only [List.map_cons, List.map_nil, encRun, encLen] at k0
  have k1 := c16 false xs
  have k2 := c16 false ys
  by_cases hx : (100 : Int) < xs.length
  · simp only [hx, decide_true] at k1
    simp (maxSteps := 1000000) (implicitDefEqProofs := false) only [Try.ntmps15, Try.results15, efc15, fc15, k0, k1, bne_self_eq_false, ss, List.replicate, evOp, evPlain, evVal, evMem, St.eval, St.put, St.get, constV, List.set, lenV, sliceOf, arrayOf, fieldsOf, normOf, norm, firstRegion, look, maskFrom, evBin, evIndexS, evLoad, evVar, evStore, evFieldAddr, nameOf, St.alloc, St.drop, killL, kill, killAll, killObs, killOb, upd, cells?, part, retag, retagL, putIn, refFree, refFreeL, isNew, isNewL, Ty.isAgg, splice, idsL, ids, idsLL, reach, depth, St.dropL, resultsV, resultV, ↓reduceIte, Nat.reduceBEq, Nat.reduceAdd, Nat.reduceSub, Nat.reduceMul, Nat.reduceEqDiff, Nat.reduceLeDiff, Nat.reduceLT, effOf, effMem, effStore, effCall, effVar, effLit, effMake, effApp, Eff.ap, lend, evLit, evMake, evNil, freeze, onto, dropO, elemsV, sized, evCmp, eqT, eqG, minV, evUn, evField, evExtract, evIndexA, evIndexV, evSlice, optInt, fillV, placeOf, thawed, del, isNilSlice, plain, plainL, cellsJ, junkOk, St.with, setSlots, setObs, wantedD, seqOf, noRange, setAll, Array.size, te, einl, inls]
  by_cases hy : (100 : Int) < ys.length
  · simp only [hx, hy, decide_true, decide_false] at k1 k2
    simp (maxSteps := 1000000) (implicitDefEqProofs := false) only [Try.ntmps15, Try.results15, efc15, fc15, k0, k1, k2, bne_self_eq_false, ss, List.replicate, evOp, evPlain, evVal, evMem, St.eval, St.put, St.get, constV, List.set, lenV, sliceOf, arrayOf, fieldsOf, normOf, norm, firstRegion, look, maskFrom, evBin, evIndexS, evLoad, evVar, evStore, evFieldAddr, nameOf, St.alloc, St.drop, killL, kill, killAll, killObs, killOb, upd, cells?, part, retag, retagL, putIn, refFree, refFreeL, isNew, isNewL, Ty.isAgg, splice, idsL, ids, idsLL, reach, depth, St.dropL, resultsV, resultV, ↓reduceIte, Nat.reduceBEq, Nat.reduceAdd, Nat.reduceSub, Nat.reduceMul, Nat.reduceEqDiff, Nat.reduceLeDiff, Nat.reduceLT, effOf, effMem, effStore, effCall, effVar, effLit, effMake, effApp, Eff.ap, lend, evLit, evMake, evNil, freeze, onto, dropO, elemsV, sized, evCmp, eqT, eqG, minV, evUn, evField, evExtract, evIndexA, evIndexV, evSlice, optInt, fillV, placeOf, thawed, del, isNilSlice, plain, plainL, cellsJ, junkOk, St.with, setSlots, setObs, wantedD, seqOf, noRange, setAll, Array.size, te, einl, inls]
  simp only [hx, hy, decide_false] at k1 k2
  have k3 := c21 false xs (by omega)
  have k4 := c21 false ys (by omega)
  by_cases hv : validate xs = 0
  · by_cases hw : validate ys = 0
    · obtain ⟨v1, v2, v3⟩ := valid_okay hv
      obtain ⟨u1, u2, u3⟩ := valid_okay hw
      have e1 := expand_len v1
      have e2 := expand_len u1
      unfold lengthM at k3 k4
      rw [if_pos hv, ln_total v1, ← e1] at k3
      rw [if_pos hw, ln_total u1, ← e2] at k4
      simp only [encLen] at k3 k4
      by_cases hn : (600 : Int) < (expand xs).length
      · simp (maxSteps := 1000000) (implicitDefEqProofs := false) only [Try.ntmps15, Try.results15, efc15, fc15, k0, k1, k2, k3, k4, hn, bne_self_eq_false, ss, List.replicate, evOp, evPlain, evVal, evMem, St.eval, St.put, St.get, constV, List.set, lenV, sliceOf, arrayOf, fieldsOf, normOf, norm, firstRegion, look, maskFrom, evBin, evIndexS, evLoad, evVar, evStore, evFieldAddr, nameOf, St.alloc, St.drop, killL, kill, killAll, killObs, killOb, upd, cells?, part, retag, retagL, putIn, refFree, refFreeL, isNew, isNewL, Ty.isAgg, splice, idsL, ids, idsLL, reach, depth, St.dropL, resultsV, resultV, ↓reduceIte, Nat.reduceBEq, Nat.reduceAdd, Nat.reduceSub, Nat.reduceMul, Nat.reduceEqDiff, Nat.reduceLeDiff, Nat.reduceLT, effOf, effMem, effStore, effCall, effVar, effLit, effMake, effApp, Eff.ap, lend, evLit, evMake, evNil, freeze, onto, dropO, elemsV, sized, evCmp, eqT, eqG, minV, evUn, evField, evExtract, evIndexA, evIndexV, evSlice, optInt, fillV, placeOf, thawed, del, isNilSlice, plain, plainL, cellsJ, junkOk, St.with, setSlots, setObs, wantedD, seqOf, noRange, setAll, Array.size, te, einl, inls]
      by_cases hk : (600 : Int) < (expand ys).length
      · simp (maxSteps := 1000000) (implicitDefEqProofs := false) only [Try.ntmps15, Try.results15, efc15, fc15, k0, k1, k2, k3, k4, hn, hk, bne_self_eq_false, ss, List.replicate, evOp, evPlain, evVal, evMem, St.eval, St.put, St.get, constV, List.set, lenV, sliceOf, arrayOf, fieldsOf, normOf, norm, firstRegion, look, maskFrom, evBin, evIndexS, evLoad, evVar, evStore, evFieldAddr, nameOf, St.alloc, St.drop, killL, kill, killAll, killObs, killOb, upd, cells?, part, retag, retagL, putIn, refFree, refFreeL, isNew, isNewL, Ty.isAgg, splice, idsL, ids, idsLL, reach, depth, St.dropL, resultsV, resultV, ↓reduceIte, Nat.reduceBEq, Nat.reduceAdd, Nat.reduceSub, Nat.reduceMul, Nat.reduceEqDiff, Nat.reduceLeDiff, Nat.reduceLT, effOf, effMem, effStore, effCall, effVar, effLit, effMake, effApp, Eff.ap, lend, evLit, evMake, evNil, freeze, onto, dropO, elemsV, sized, evCmp, eqT, eqG, minV, evUn, evField, evExtract, evIndexA, evIndexV, evSlice, optInt, fillV, placeOf, thawed, del, isNilSlice, plain, plainL, cellsJ, junkOk, St.with, setSlots, setObs, wantedD, seqOf, noRange, setAll, Array.size, te, einl, inls]
      have k5 := c57 xs hv
      have k6 := c57 ys hw
      have k7 := c31 xs lo hi (by omega)
      have k8 := c27 xs ys (by omega) (by omega)
      rw [if_pos (both_of hv hw)] at k8
      have k9 := c29 xs (by omega)
      rw [if_pos hv] at k9
      obtain ⟨r1, r2, r3, r4, r5⟩ := rev_ok hv
      rw [r1] at k9
      have k10 := c58 _ r2 r3
      rw [r4] at k10
      generalize joinedL xs.reverse = rs at *
      have jok := fin_ok (qs := xs ++ ys) ⟨fun r hr => (List.mem_append.1 hr).elim (v1.1 r) (u1.1 r), by rw [total_app]; omega⟩ (by rw [total_app]; omega) (fun m hm => by rw [expand_app] at hm; exact (List.mem_append.1 hm).elim (valid_marks hv m) (valid_marks hw m))
      rw [expand_app] at jok
      have sok : (sliceM xs lo hi).2 = 0 → 0 ≤ lo ∧ lo ≤ hi ∧ hi ≤ (expand xs).length ∧ (orcω E X0).call 58 [.sl false ((sliceM xs lo hi).1.map encRun), .sl false ((((expand xs).take hi.toNat).drop lo.toNat).map encMk)] = some (.bool true) := by
        intro h
        have hs : spanM xs lo hi = true := by
          cases hs : spanM xs lo hi with
          | true => rfl
          | false => exact absurd h (slice_err (fun h => by rw [hs] at h; cases h.2)).1
        obtain ⟨b1, b2, b3⟩ := (span_of hv).1 hs
        refine ⟨b1, b2, b3, ?_⟩
        rw [slice_rle hv hs]
        obtain ⟨s1, s2⟩ := slice_valid hv hs
        have s3 := (rle_ok (((expand xs).take hi.toNat).drop lo.toNat) (by have := valid_len hv; simp only [List.length_drop, List.length_take]; omega)).2.2
        have := c58 _ s1 s3
        rw [s2] at this
        exact this
      generalize sliceM xs lo hi = S at *
      obtain ⟨sx, se⟩ := S
      dsimp only at sok
      have jok2 : (finished (joinedL (xs ++ ys))).2 = 0 → (orcω E X0).call 58 [.sl false ((finished (joinedL (xs ++ ys))).1.map encRun), .sl false ((expand xs ++ expand ys).map encMk)] = some (.bool true) := by
        intro h
        obtain ⟨f1, f2, f3, f4, f5⟩ := jok h
        rw [f1]
        have := c58 _ f2 f3
        rw [f4] at this
        exact this
      clear jok
      generalize finished (joinedL (xs ++ ys)) = J at *
      obtain ⟨js, je⟩ := J
      dsimp only at jok2
      simp only [encRes] at k7 k8 k9
      have z1 := sized_mk (expand xs)
      have z2 := sized_mk (expand ys)
      have hr1 : roomy (expand xs).length 24 = true := by simp [roomy]; omega
      have hr2 : roomy ((expand xs).length + (expand ys).length) 24 = true := by simp [roomy]; omega
      have hb1 : (expand xs).length ≤ 4294967296 := by omega
      have hb2 : (expand xs).length + (expand ys).length ≤ 4294967296 := by omega
      have q1 : ((expand xs).map encMk ++ (expand ys).map encMk).length = (expand xs).length + (expand ys).length := by simp
      have q2 : ((expand xs).map encMk ++ (expand ys).map encMk).take ((expand xs).length + (expand ys).length) = (expand xs).map encMk ++ (expand ys).map encMk := List.take_of_length_le (by rw [q1]; exact Nat.le_refl _)
      by_cases hse : se = 0
      case' pos =>
        obtain ⟨b1, b2, b3, b4⟩ := sok hse
        subst hse
        have d1 : ((expand xs).map encMk).drop lo.toNat = (((expand xs).drop lo.toNat)).map encMk := by rw [List.map_drop]
        have d2 : (((expand xs).drop lo.toNat).map encMk).take (hi - lo).toNat = (((expand xs).take hi.toNat).drop lo.toNat).map encMk := by rw [← List.map_take, List.drop_take, show hi.toNat - lo.toNat = (hi - lo).toNat by omega]
        simp (maxSteps := 1000000) (implicitDefEqProofs := false) only [Try.ntmps15, Try.results15, efc15, fc15, k0, k1, k2, k3, k4, k5, k6, k7, k8, k9, hn, hk, b1, b2, b3, b4, d1, d2, z1, bne_self_eq_false, beq_self_eq_true, ss, List.replicate, evOp, evPlain, evVal, evMem, St.eval, St.put, St.get, constV, List.set, lenV, sliceOf, arrayOf, fieldsOf, normOf, norm, firstRegion, look, maskFrom, evBin, evIndexS, evLoad, evVar, evStore, evFieldAddr, nameOf, St.alloc, St.drop, killL, kill, killAll, killObs, killOb, upd, cells?, part, retag, retagL, putIn, refFree, refFreeL, isNew, isNewL, Ty.isAgg, splice, idsL, ids, idsLL, reach, depth, St.dropL, resultsV, resultV, ↓reduceIte, Nat.reduceBEq, Nat.reduceAdd, Nat.reduceSub, Nat.reduceMul, Nat.reduceEqDiff, Nat.reduceLeDiff, Nat.reduceLT, effOf, effMem, effStore, effCall, effVar, effLit, effMake, effApp, Eff.ap, lend, evLit, evMake, evNil, freeze, onto, dropO, elemsV, sized, evCmp, eqT, eqG, minV, evUn, evField, evExtract, evIndexA, evIndexV, evSlice, optInt, fillV, placeOf, thawed, del, isNilSlice, plain, plainL, cellsJ, junkOk, St.with, setSlots, setObs, wantedD, seqOf, noRange, setAll, Array.size, te, einl, inls]
        clear b1 b2 b3 b4 d1 d2
      case' neg =>
        have hse' : (se == 0) = false := by simpa using hse
        simp (maxSteps := 1000000) (implicitDefEqProofs := false) only [Try.ntmps15, Try.results15, efc15, fc15, k0, k1, k2, k3, k4, k5, k6, k7, k8, k9, hn, hk, hse', bne_self_eq_false, beq_self_eq_true, ss, List.replicate, evOp, evPlain, evVal, evMem, St.eval, St.put, St.get, constV, List.set, lenV, sliceOf, arrayOf, fieldsOf, normOf, norm, firstRegion, look, maskFrom, evBin, evIndexS, evLoad, evVar, evStore, evFieldAddr, nameOf, St.alloc, St.drop, killL, kill, killAll, killObs, killOb, upd, cells?, part, retag, retagL, putIn, refFree, refFreeL, isNew, isNewL, Ty.isAgg, splice, idsL, ids, idsLL, reach, depth, St.dropL, resultsV, resultV, ↓reduceIte, Nat.reduceBEq, Nat.reduceAdd, Nat.reduceSub, Nat.reduceMul, Nat.reduceEqDiff, Nat.reduceLeDiff, Nat.reduceLT, effOf, effMem, effStore, effCall, effVar, effLit, effMake, effApp, Eff.ap, lend, evLit, evMake, evNil, freeze, onto, dropO, elemsV, sized, evCmp, eqT, eqG, minV, evUn, evField, evExtract, evIndexA, evIndexV, evSlice, optInt, fillV, placeOf, thawed, del, isNilSlice, plain, plainL, cellsJ, junkOk, St.with, setSlots, setObs, wantedD, seqOf, noRange, setAll, Array.size, te, einl, inls]
        clear hse hse'
      all_goals by_cases hje : je = 0
      all_goals first
        | (have j1 := jok2 hje
           rw [List.map_append] at j1
           subst hje
           simp (maxSteps := 1000000) (implicitDefEqProofs := false) only [j1, hr1, hr2, hb1, hb2, z1, z2, q1, q2, k9, k10, List.length_map, Nat.le_refl, List.drop_zero, bne_self_eq_false, beq_self_eq_true, ss, List.replicate, evOp, evPlain, evVal, evMem, St.eval, St.put, St.get, constV, List.set, lenV, sliceOf, arrayOf, fieldsOf, normOf, norm, firstRegion, look, maskFrom, evBin, evIndexS, evLoad, evVar, evStore, evFieldAddr, nameOf, St.alloc, St.drop, killL, kill, killAll, killObs, killOb, upd, cells?, part, retag, retagL, putIn, refFree, refFreeL, isNew, isNewL, Ty.isAgg, splice, idsL, ids, idsLL, reach, depth, St.dropL, resultsV, resultV, ↓reduceIte, Nat.reduceBEq, Nat.reduceAdd, Nat.reduceSub, Nat.reduceMul, Nat.reduceEqDiff, Nat.reduceLeDiff, Nat.reduceLT, effOf, effMem, effStore, effCall, effVar, effLit, effMake, effApp, Eff.ap, lend, evLit, evMake, evNil, freeze, onto, dropO, elemsV, sized, evCmp, eqT, eqG, minV, evUn, evField, evExtract, evIndexA, evIndexV, evSlice, optInt, fillV, placeOf, thawed, del, isNilSlice, plain, plainL, cellsJ, junkOk, St.with, setSlots, setObs, wantedD, seqOf, noRange, setAll, Array.size, te, einl, inls]
           clear j1)
        | (have hje' : (je == 0) = false := by simpa using hje
           simp (maxSteps := 1000000) (implicitDefEqProofs := false) only [hje', k9, bne_self_eq_false, beq_self_eq_true, ss, List.replicate, evOp, evPlain, evVal, evMem, St.eval, St.put, St.get, constV, List.set, lenV, sliceOf, arrayOf, fieldsOf, normOf, norm, firstRegion, look, maskFrom, evBin, evIndexS, evLoad, evVar, evStore, evFieldAddr, nameOf, St.alloc, St.drop, killL, kill, killAll, killObs, killOb, upd, cells?, part, retag, retagL, putIn, refFree, refFreeL, isNew, isNewL, Ty.isAgg, splice, idsL, ids, idsLL, reach, depth, St.dropL, resultsV, resultV, ↓reduceIte, Nat.reduceBEq, Nat.reduceAdd, Nat.reduceSub, Nat.reduceMul, Nat.reduceEqDiff, Nat.reduceLeDiff, Nat.reduceLT, effOf, effMem, effStore, effCall, effVar, effLit, effMake, effApp, Eff.ap, lend, evLit, evMake, evNil, freeze, onto, dropO, elemsV, sized, evCmp, eqT, eqG, minV, evUn, evField, evExtract, evIndexA, evIndexV, evSlice, optInt, fillV, placeOf, thawed, del, isNilSlice, plain, plainL, cellsJ, junkOk, St.with, setSlots, setObs, wantedD, seqOf, noRange, setAll, Array.size, te, einl, inls]
           clear hje hje')
      all_goals clear sok jok2 k7 k8
      all_goals
        have kv := c48 xs (by omega)
        have kg := c41 xs rs (by omega) (by omega)
        have ko := c42 xs ys lo (by omega) (by omega)
        have hwell := valid_marks hv
        generalize hr : loopAt _ _ _ _ _ _ = r; revert r
        refine loop_inv (ι := { i : Nat // i ≤ (expand xs).length }) (fun i => [(22, .own 22 0 i.1), (23, .int .i64 (thicks ((expand xs).take i.1))), (24, .int .i64 i.1)]) (fun i => [(5, { es := 4, flat := true, t := true, app := false, elems := [.agg [.int .i64 lo, .int .i64 hi, .int .i64 fl, .int .i64 th]] }), (22, { es := 3, flat := true, t := true, app := true, elems := ((expand xs).reverse.take i.1).map encMk })]) (fun i => (expand xs).length - i.1) ⟨0, by omega⟩ (by simp (maxSteps := 1000000) (implicitDefEqProofs := false) only [List.take_zero, List.map_nil, thicks, List.sum_nil, ss, List.replicate, evOp, evPlain, evVal, evMem, St.eval, St.put, St.get, constV, List.set, lenV, sliceOf, arrayOf, fieldsOf, normOf, norm, firstRegion, look, maskFrom, evBin, evIndexS, evLoad, evVar, evStore, evFieldAddr, nameOf, St.alloc, St.drop, killL, kill, killAll, killObs, killOb, upd, cells?, part, retag, retagL, putIn, refFree, refFreeL, isNew, isNewL, Ty.isAgg, splice, idsL, ids, idsLL, reach, depth, St.dropL, resultsV, resultV, ↓reduceIte, Nat.reduceBEq, Nat.reduceAdd, Nat.reduceSub, Nat.reduceMul, Nat.reduceEqDiff, Nat.reduceLeDiff, Nat.reduceLT, effOf, effMem, effStore, effCall, effVar, effLit, effMake, effApp, Eff.ap, lend, evLit, evMake, evNil, freeze, onto, dropO, elemsV, sized, evCmp, eqT, eqG, minV, evUn, evField, evExtract, evIndexA, evIndexV, evSlice, optInt, fillV, placeOf, thawed, del, isNilSlice, plain, plainL, cellsJ, junkOk, St.with, setSlots, setObs, wantedD, seqOf, noRange, setAll, Array.size, te, einl, inls]) ?_
        rintro ⟨i, hiN⟩
        dsimp only
        have w1 : IntKind.i64.wrap ((i : Int) + 1) = ((i + 1 : Nat) : Int) := by rw [wrap_in (by omega)]; omega
        by_cases hlt : (i : Int) < ((expand xs).length : Int)
        · have g0 : i < (expand xs).length := by omega
          have g1 : (expand xs)[i]? = some (expand xs)[i] := List.getElem?_eq_getElem g0
          have g2 : (expand xs)[(expand xs).length - 1 - i]? = some (expand xs)[(expand xs).length - 1 - i] := List.getElem?_eq_getElem (by omega)
          have g3 : (expand xs).reverse[i]? = some (expand xs)[(expand xs).length - 1 - i] := by rw [List.getElem?_reverse g0]; exact g2
          have hm1 := hwell _ (List.getElem_mem g0)
          generalize (expand xs)[i] = m at *
          generalize (expand xs)[(expand xs).length - 1 - i] = m' at *
          have w2 : IntKind.i64.wrap (((expand xs).length : Int) - 1) = ((expand xs).length : Int) - 1 := wrap_in (by omega)
          have w3 : IntKind.i64.wrap (((expand xs).length : Int) - 1 - (i : Int)) = (((expand xs).length - 1 - i : Nat) : Int) := by rw [wrap_in (by omega)]; omega
          have t1 := thicks_in (ms := (expand xs).take i) fun x hx => hwell x (List.mem_of_mem_take hx)
          have t2 : ((expand xs).take i).length ≤ 600 := by rw [List.length_take]; omega
          have t3 : thicks ((expand xs).take (i + 1)) = thicks ((expand xs).take i) + m.thick := by
            rw [List.take_add_one, g1, thicks_app]; simp [thicks]
          simp only [wellM, Bool.and_eq_true, inB, decide_eq_true_eq] at hm1
          have w4 : IntKind.i64.wrap (thicks ((expand xs).take i) + m.thick) = thicks ((expand xs).take (i + 1)) := by rw [t3]; exact wrap_in (by omega)
          have hlen : (((expand xs).reverse.take i).map encMk).length = i := by rw [List.length_map, List.length_take, List.length_reverse]; omega
          have hr3 : roomy (i + 1) 24 = true := by simp [roomy]; omega
          have hb3 : i + 1 ≤ 4294967296 := by omega
          have t4 : ((expand xs).reverse.take i).map encMk ++ [.agg [.int .i64 m'.thick, .int .i64 m'.shade, .int .i64 m'.flaw]] = ((expand xs).reverse.take (i + 1)).map encMk := by
            rw [List.take_add_one, g3, List.map_append]; rfl
          simp (maxSteps := 1000000) (implicitDefEqProofs := false) only [hlt, w1, w2, w3, w4, g1, g2, hlen, hr3, hb3, t4, encMk, List.getElem?_map, Int.natCast_nonneg, Int.toNat_natCast, ss, List.replicate, evOp, evPlain, evVal, evMem, St.eval, St.put, St.get, constV, List.set, lenV, sliceOf, arrayOf, fieldsOf, normOf, norm, firstRegion, look, maskFrom, evBin, evIndexS, evLoad, evVar, evStore, evFieldAddr, nameOf, St.alloc, St.drop, killL, kill, killAll, killObs, killOb, upd, cells?, part, retag, retagL, putIn, refFree, refFreeL, isNew, isNewL, Ty.isAgg, splice, idsL, ids, idsLL, reach, depth, St.dropL, resultsV, resultV, ↓reduceIte, Nat.reduceBEq, Nat.reduceAdd, Nat.reduceSub, Nat.reduceMul, Nat.reduceEqDiff, Nat.reduceLeDiff, Nat.reduceLT, effOf, effMem, effStore, effCall, effVar, effLit, effMake, effApp, Eff.ap, lend, evLit, evMake, evNil, freeze, onto, dropO, elemsV, sized, evCmp, eqT, eqG, minV, evUn, evField, evExtract, evIndexA, evIndexV, evSlice, optInt, fillV, placeOf, thawed, del, isNilSlice, plain, plainL, cellsJ, junkOk, St.with, setSlots, setObs, wantedD, seqOf, noRange, setAll, Array.size, te, einl, inls]
          exact ⟨⟨i + 1, by omega⟩, rfl, by dsimp only; omega⟩
        · obtain rfl : i = (expand xs).length := by omega
          have t5 : (expand xs).reverse.take (expand xs).length = (expand xs).reverse := List.take_of_length_le (by rw [List.length_reverse]; exact Nat.le_refl _)
          have t6 : ((expand xs).reverse.map encMk).take (expand xs).length = (expand xs).reverse.map encMk := List.take_of_length_le (by rw [List.length_map, List.length_reverse]; exact Nat.le_refl _)
          have t7 := vol_thicks hv
          unfold volM at kv
          rw [if_pos hv, t7] at kv
          simp only [encLen] at kv
          have cl1 := cpl_le_left (expand xs) (expand xs).reverse
          unfold agreeM at kg
          rw [if_pos (both_of hv r2), r4] at kg
          simp only [encLen] at kg
          have oo := over_ok (xs := xs) (ys := ys) (x := lo) hv hw
          generalize overM xs ys lo = O at *
          obtain ⟨os, oe⟩ := O
          dsimp only at oo
          simp only [encRes] at ko
          simp (maxSteps := 1000000) (implicitDefEqProofs := false) only [hlt, t5, t6, List.take_length, k10, kv, ko, List.length_map, List.length_reverse, Nat.le_refl, List.drop_zero, bne_self_eq_false, beq_self_eq_true, ss, List.replicate, evOp, evPlain, evVal, evMem, St.eval, St.put, St.get, constV, List.set, lenV, sliceOf, arrayOf, fieldsOf, normOf, norm, firstRegion, look, maskFrom, evBin, evIndexS, evLoad, evVar, evStore, evFieldAddr, nameOf, St.alloc, St.drop, killL, kill, killAll, killObs, killOb, upd, cells?, part, retag, retagL, putIn, refFree, refFreeL, isNew, isNewL, Ty.isAgg, splice, idsL, ids, idsLL, reach, depth, St.dropL, resultsV, resultV, ↓reduceIte, Nat.reduceBEq, Nat.reduceAdd, Nat.reduceSub, Nat.reduceMul, Nat.reduceEqDiff, Nat.reduceLeDiff, Nat.reduceLT, effOf, effMem, effStore, effCall, effVar, effLit, effMake, effApp, Eff.ap, lend, evLit, evMake, evNil, freeze, onto, dropO, elemsV, sized, evCmp, eqT, eqG, minV, evUn, evField, evExtract, evIndexA, evIndexV, evSlice, optInt, fillV, placeOf, thawed, del, isNilSlice, plain, plainL, cellsJ, junkOk, St.with, setSlots, setObs, wantedD, seqOf, noRange, setAll, Array.size, te, einl, inls]
          by_cases hoe : oe = 0
          · obtain ⟨p1, p2, p3, p4, p5, p6⟩ := oo hoe
            subst hoe
            have kf := c37 os ys (by omega) (by omega)
            have ks := c58 os p3 p4
            rw [p5] at ks
            have hocc := over_occ (ms := expand xs) (ps := expand ys) (a := lo.toNat) p2
            obtain ⟨kk, f1, f2, f3⟩ := find_occ hocc
            unfold findM at kf
            rw [if_pos (both_of p3 hw), p5, f2] at kf
            simp only [encFind] at kf
            have nf : ¬ lo < (kk : Int) := by omega
            have zz : overMs (expand xs) (expand ys) lo.toNat 0 = expand xs := over_zero _ _ _
            simp (maxSteps := 1000000) (implicitDefEqProofs := false) only [hr1, hb1, z1, List.length_map, bne_self_eq_false, beq_self_eq_true, ss, List.replicate, evOp, evPlain, evVal, evMem, St.eval, St.put, St.get, constV, List.set, lenV, sliceOf, arrayOf, fieldsOf, normOf, norm, firstRegion, look, maskFrom, evBin, evIndexS, evLoad, evVar, evStore, evFieldAddr, nameOf, St.alloc, St.drop, killL, kill, killAll, killObs, killOb, upd, cells?, part, retag, retagL, putIn, refFree, refFreeL, isNew, isNewL, Ty.isAgg, splice, idsL, ids, idsLL, reach, depth, St.dropL, resultsV, resultV, ↓reduceIte, Nat.reduceBEq, Nat.reduceAdd, Nat.reduceSub, Nat.reduceMul, Nat.reduceEqDiff, Nat.reduceLeDiff, Nat.reduceLT, effOf, effMem, effStore, effCall, effVar, effLit, effMake, effApp, Eff.ap, lend, evLit, evMake, evNil, freeze, onto, dropO, elemsV, sized, evCmp, eqT, eqG, minV, evUn, evField, evExtract, evIndexA, evIndexV, evSlice, optInt, fillV, placeOf, thawed, del, isNilSlice, plain, plainL, cellsJ, junkOk, St.with, setSlots, setObs, wantedD, seqOf, noRange, setAll, Array.size, te, einl, inls]
            generalize hr : loopAt _ _ _ _ _ _ = r; revert r
            refine loop_inv (ι := { i : Nat // i ≤ (expand ys).length }) (fun i => [(30, .int .i64 i.1)]) (fun i => [(5, { es := 4, flat := true, t := true, app := false, elems := [.agg [.int .i64 lo, .int .i64 hi, .int .i64 fl, .int .i64 th]] }), (22, { es := 3, flat := true, t := true, app := true, elems := (expand xs).reverse.map encMk }), (29, { es := 3, flat := true, t := true, app := true, elems := (overMs (expand xs) (expand ys) lo.toNat i.1).map encMk })]) (fun i => (expand ys).length - i.1) ⟨0, by omega⟩ (by simp (maxSteps := 1000000) (implicitDefEqProofs := false) only [zz, ss, List.replicate, evOp, evPlain, evVal, evMem, St.eval, St.put, St.get, constV, List.set, lenV, sliceOf, arrayOf, fieldsOf, normOf, norm, firstRegion, look, maskFrom, evBin, evIndexS, evLoad, evVar, evStore, evFieldAddr, nameOf, St.alloc, St.drop, killL, kill, killAll, killObs, killOb, upd, cells?, part, retag, retagL, putIn, refFree, refFreeL, isNew, isNewL, Ty.isAgg, splice, idsL, ids, idsLL, reach, depth, St.dropL, resultsV, resultV, ↓reduceIte, Nat.reduceBEq, Nat.reduceAdd, Nat.reduceSub, Nat.reduceMul, Nat.reduceEqDiff, Nat.reduceLeDiff, Nat.reduceLT, effOf, effMem, effStore, effCall, effVar, effLit, effMake, effApp, Eff.ap, lend, evLit, evMake, evNil, freeze, onto, dropO, elemsV, sized, evCmp, eqT, eqG, minV, evUn, evField, evExtract, evIndexA, evIndexV, evSlice, optInt, fillV, placeOf, thawed, del, isNilSlice, plain, plainL, cellsJ, junkOk, St.with, setSlots, setObs, wantedD, seqOf, noRange, setAll, Array.size, te, einl, inls]) ?_
            rintro ⟨i, hi'⟩
            dsimp only
            have x1 : IntKind.i64.wrap ((i : Int) + 1) = ((i + 1 : Nat) : Int) := by rw [wrap_in (by omega)]; omega
            have ol := over_len (ms := expand xs) (ps := expand ys) (a := lo.toNat) (i := i) (by omega) hi'
            by_cases hlt3 : (i : Int) < ((expand ys).length : Int)
            · have h1 : (expand ys)[i]? = some (expand ys)[i] := List.getElem?_eq_getElem (by omega)
              have st := over_set (ms := expand xs) (ps := expand ys) (a := lo.toNat) (i := i) (by omega) h1
              obtain ⟨mo, h2⟩ : ∃ mo, (overMs (expand xs) (expand ys) lo.toNat i)[lo.toNat + i]? = some mo := ⟨_, List.getElem?_eq_getElem (by omega)⟩
              generalize (expand ys)[i] = m at *
              have x2 : IntKind.i64.wrap (lo + (i : Int)) = lo + (i : Int) := wrap_in (by omega)
              have x3 : (lo + (i : Int)).toNat = lo.toNat + i := by omega
              have x4 : (0 ≤ lo + (i : Int)) = True := eq_true (by omega)
              have x5 : (lo + (i : Int) < ((expand xs).length : Int)) = True := eq_true (by omega)
              have x6 : ((overMs (expand xs) (expand ys) lo.toNat i).map encMk).set (lo.toNat + i) (.agg [.int .i64 m.thick, .int .i64 m.shade, .int .i64 m.flaw]) = (overMs (expand xs) (expand ys) lo.toNat (i + 1)).map encMk := by rw [← st, List.map_set]; rfl
              simp (maxSteps := 1000000) (implicitDefEqProofs := false) only [hlt3, ss, List.replicate, evOp, evPlain, evVal, evMem, St.eval, St.put, St.get, constV, List.set, lenV, sliceOf, arrayOf, fieldsOf, normOf, norm, firstRegion, look, maskFrom, evBin, evIndexS, evLoad, evVar, evStore, evFieldAddr, nameOf, St.alloc, St.drop, killL, kill, killAll, killObs, killOb, upd, cells?, part, retag, retagL, putIn, refFree, refFreeL, isNew, isNewL, Ty.isAgg, splice, idsL, ids, idsLL, reach, depth, St.dropL, resultsV, resultV, ↓reduceIte, Nat.reduceBEq, Nat.reduceAdd, Nat.reduceSub, Nat.reduceMul, Nat.reduceEqDiff, Nat.reduceLeDiff, Nat.reduceLT, effOf, effMem, effStore, effCall, effVar, effLit, effMake, effApp, Eff.ap, lend, evLit, evMake, evNil, freeze, onto, dropO, elemsV, sized, evCmp, eqT, eqG, minV, evUn, evField, evExtract, evIndexA, evIndexV, evSlice, optInt, fillV, placeOf, thawed, del, isNilSlice, plain, plainL, cellsJ, junkOk, St.with, setSlots, setObs, wantedD, seqOf, noRange, setAll, Array.size, te, einl, inls]
              rw [evRegion_dynB]
              rotate_left
              · rfl
              simp (maxSteps := 1000000) (implicitDefEqProofs := false) only [x1, x2, x3, x4, x5, x6, h1, h2, ol, encMk, List.length_map, List.getElem?_map, Int.natCast_nonneg, Int.toNat_natCast, ss, List.replicate, evOp, evPlain, evVal, evMem, St.eval, St.put, St.get, constV, List.set, lenV, sliceOf, arrayOf, fieldsOf, normOf, norm, firstRegion, look, maskFrom, evBin, evIndexS, evLoad, evVar, evStore, evFieldAddr, nameOf, St.alloc, St.drop, killL, kill, killAll, killObs, killOb, upd, cells?, part, retag, retagL, putIn, refFree, refFreeL, isNew, isNewL, Ty.isAgg, splice, idsL, ids, idsLL, reach, depth, St.dropL, resultsV, resultV, ↓reduceIte, Nat.reduceBEq, Nat.reduceAdd, Nat.reduceSub, Nat.reduceMul, Nat.reduceEqDiff, Nat.reduceLeDiff, Nat.reduceLT, effOf, effMem, effStore, effCall, effVar, effLit, effMake, effApp, Eff.ap, lend, evLit, evMake, evNil, freeze, onto, dropO, elemsV, sized, evCmp, eqT, eqG, minV, evUn, evField, evExtract, evIndexA, evIndexV, evSlice, optInt, fillV, placeOf, thawed, del, isNilSlice, plain, plainL, cellsJ, junkOk, St.with, setSlots, setObs, wantedD, seqOf, noRange, setAll, Array.size, te, einl, inls]
              exact ⟨⟨i + 1, by omega⟩, rfl, by dsimp only; omega⟩
            · obtain rfl : i = (expand ys).length := by omega
              have x7 : ((overMs (expand xs) (expand ys) lo.toNat (expand ys).length).map encMk).take (expand xs).length = (overMs (expand xs) (expand ys) lo.toNat (expand ys).length).map encMk := List.take_of_length_le (by rw [List.length_map, ol]; exact Nat.le_refl _)
              simp (maxSteps := 1000000) (implicitDefEqProofs := false) only [hlt3, kf, ks, nf, x7, ol, List.length_map, Nat.le_refl, List.drop_zero, bne_self_eq_false, beq_self_eq_true, ss, List.replicate, evOp, evPlain, evVal, evMem, St.eval, St.put, St.get, constV, List.set, lenV, sliceOf, arrayOf, fieldsOf, normOf, norm, firstRegion, look, maskFrom, evBin, evIndexS, evLoad, evVar, evStore, evFieldAddr, nameOf, St.alloc, St.drop, killL, kill, killAll, killObs, killOb, upd, cells?, part, retag, retagL, putIn, refFree, refFreeL, isNew, isNewL, Ty.isAgg, splice, idsL, ids, idsLL, reach, depth, St.dropL, resultsV, resultV, ↓reduceIte, Nat.reduceBEq, Nat.reduceAdd, Nat.reduceSub, Nat.reduceMul, Nat.reduceEqDiff, Nat.reduceLeDiff, Nat.reduceLT, effOf, effMem, effStore, effCall, effVar, effLit, effMake, effApp, Eff.ap, lend, evLit, evMake, evNil, freeze, onto, dropO, elemsV, sized, evCmp, eqT, eqG, minV, evUn, evField, evExtract, evIndexA, evIndexV, evSlice, optInt, fillV, placeOf, thawed, del, isNilSlice, plain, plainL, cellsJ, junkOk, St.with, setSlots, setObs, wantedD, seqOf, noRange, setAll, Array.size, te, einl, inls]
              simp (maxSteps := 1000000) (implicitDefEqProofs := false) only [hlt, kg, evRegion_calm, ss, List.replicate, evOp, evPlain, evVal, evMem, St.eval, St.put, St.get, constV, List.set, lenV, sliceOf, arrayOf, fieldsOf, normOf, norm, firstRegion, look, maskFrom, evBin, evIndexS, evLoad, evVar, evStore, evFieldAddr, nameOf, St.alloc, St.drop, killL, kill, killAll, killObs, killOb, upd, cells?, part, retag, retagL, putIn, refFree, refFreeL, isNew, isNewL, Ty.isAgg, splice, idsL, ids, idsLL, reach, depth, St.dropL, resultsV, resultV, ↓reduceIte, Nat.reduceBEq, Nat.reduceAdd, Nat.reduceSub, Nat.reduceMul, Nat.reduceEqDiff, Nat.reduceLeDiff, Nat.reduceLT, effOf, effMem, effStore, effCall, effVar, effLit, effMake, effApp, Eff.ap, lend, evLit, evMake, evNil, freeze, onto, dropO, elemsV, sized, evCmp, eqT, eqG, minV, evUn, evField, evExtract, evIndexA, evIndexV, evSlice, optInt, fillV, placeOf, thawed, del, isNilSlice, plain, plainL, cellsJ, junkOk, St.with, setSlots, setObs, wantedD, seqOf, noRange, setAll, Array.size, te, einl, inls]
              generalize hr : loopAt _ _ _ _ _ _ = r; revert r
              refine loop_inv (ι := { i : Nat // i ≤ cpl (expand xs) (expand xs).reverse }) (fun i => [(35, .int .i64 i.1)]) (fun i => [(22, { es := 3, flat := true, t := true, app := true, elems := (expand xs).reverse.map encMk })]) (fun i => cpl (expand xs) (expand xs).reverse - i.1) ⟨0, by omega⟩ (by simp (maxSteps := 1000000) (implicitDefEqProofs := false) only [ss, List.replicate, evOp, evPlain, evVal, evMem, St.eval, St.put, St.get, constV, List.set, lenV, sliceOf, arrayOf, fieldsOf, normOf, norm, firstRegion, look, maskFrom, evBin, evIndexS, evLoad, evVar, evStore, evFieldAddr, nameOf, St.alloc, St.drop, killL, kill, killAll, killObs, killOb, upd, cells?, part, retag, retagL, putIn, refFree, refFreeL, isNew, isNewL, Ty.isAgg, splice, idsL, ids, idsLL, reach, depth, St.dropL, resultsV, resultV, ↓reduceIte, Nat.reduceBEq, Nat.reduceAdd, Nat.reduceSub, Nat.reduceMul, Nat.reduceEqDiff, Nat.reduceLeDiff, Nat.reduceLT, effOf, effMem, effStore, effCall, effVar, effLit, effMake, effApp, Eff.ap, lend, evLit, evMake, evNil, freeze, onto, dropO, elemsV, sized, evCmp, eqT, eqG, minV, evUn, evField, evExtract, evIndexA, evIndexV, evSlice, optInt, fillV, placeOf, thawed, del, isNilSlice, plain, plainL, cellsJ, junkOk, St.with, setSlots, setObs, wantedD, seqOf, noRange, setAll, Array.size, te, einl, inls]) ?_
              rintro ⟨i, hiF⟩
              dsimp only
              have y1 : IntKind.i64.wrap ((i : Int) + 1) = ((i + 1 : Nat) : Int) := by rw [wrap_in (by omega)]; omega
              by_cases hlt2 : (i : Int) < (cpl (expand xs) (expand xs).reverse : Nat)
              · have h0 : i < (expand xs).length := by omega
                have h1 : (expand xs)[i]? = some (expand xs)[i] := List.getElem?_eq_getElem h0
                have h2 : (expand xs).reverse[i]? = some (expand xs)[i] := by
                  have := congrArg (fun l : List Mk => l[i]?) (cpl_take (expand xs) (expand xs).reverse)
                  rw [List.getElem?_take_of_lt (by omega), List.getElem?_take_of_lt (by omega), h1] at this
                  exact this.symm
                generalize (expand xs)[i] = m at *
                have h3 : (m.thick != m.thick || (m.shade != m.shade || m.flaw != m.flaw)) = false := by simp
                have h4 : ((i : Int) < ((expand xs).length : Int)) = True := eq_true (by omega)
                simp (maxSteps := 1000000) (implicitDefEqProofs := false) only [hlt2, ss, List.replicate, evOp, evPlain, evVal, evMem, St.eval, St.put, St.get, constV, List.set, lenV, sliceOf, arrayOf, fieldsOf, normOf, norm, firstRegion, look, maskFrom, evBin, evIndexS, evLoad, evVar, evStore, evFieldAddr, nameOf, St.alloc, St.drop, killL, kill, killAll, killObs, killOb, upd, cells?, part, retag, retagL, putIn, refFree, refFreeL, isNew, isNewL, Ty.isAgg, splice, idsL, ids, idsLL, reach, depth, St.dropL, resultsV, resultV, ↓reduceIte, Nat.reduceBEq, Nat.reduceAdd, Nat.reduceSub, Nat.reduceMul, Nat.reduceEqDiff, Nat.reduceLeDiff, Nat.reduceLT, effOf, effMem, effStore, effCall, effVar, effLit, effMake, effApp, Eff.ap, lend, evLit, evMake, evNil, freeze, onto, dropO, elemsV, sized, evCmp, eqT, eqG, minV, evUn, evField, evExtract, evIndexA, evIndexV, evSlice, optInt, fillV, placeOf, thawed, del, isNilSlice, plain, plainL, cellsJ, junkOk, St.with, setSlots, setObs, wantedD, seqOf, noRange, setAll, Array.size, te, einl, inls]
                rw [evRegion_dynB]
                rotate_left
                · rfl
                simp (maxSteps := 1000000) (implicitDefEqProofs := false) only [y1, h1, h2, h4, encMk, bne_self_eq_false, beq_self_eq_true, Bool.true_and, Bool.not_true, List.getElem?_map, Int.natCast_nonneg, Int.toNat_natCast, ss, List.replicate, evOp, evPlain, evVal, evMem, St.eval, St.put, St.get, constV, List.set, lenV, sliceOf, arrayOf, fieldsOf, normOf, norm, firstRegion, look, maskFrom, evBin, evIndexS, evLoad, evVar, evStore, evFieldAddr, nameOf, St.alloc, St.drop, killL, kill, killAll, killObs, killOb, upd, cells?, part, retag, retagL, putIn, refFree, refFreeL, isNew, isNewL, Ty.isAgg, splice, idsL, ids, idsLL, reach, depth, St.dropL, resultsV, resultV, ↓reduceIte, Nat.reduceBEq, Nat.reduceAdd, Nat.reduceSub, Nat.reduceMul, Nat.reduceEqDiff, Nat.reduceLeDiff, Nat.reduceLT, effOf, effMem, effStore, effCall, effVar, effLit, effMake, effApp, Eff.ap, lend, evLit, evMake, evNil, freeze, onto, dropO, elemsV, sized, evCmp, eqT, eqG, minV, evUn, evField, evExtract, evIndexA, evIndexV, evSlice, optInt, fillV, placeOf, thawed, del, isNilSlice, plain, plainL, cellsJ, junkOk, St.with, setSlots, setObs, wantedD, seqOf, noRange, setAll, Array.size, te, einl, inls]
                exact ⟨⟨i + 1, by omega⟩, rfl, by dsimp only; omega⟩
              · obtain rfl : i = cpl (expand xs) (expand xs).reverse := by omega
                simp (maxSteps := 1000000) (implicitDefEqProofs := false) only [hlt2, ss, List.replicate, evOp, evPlain, evVal, evMem, St.eval, St.put, St.get, constV, List.set, lenV, sliceOf, arrayOf, fieldsOf, normOf, norm, firstRegion, look, maskFrom, evBin, evIndexS, evLoad, evVar, evStore, evFieldAddr, nameOf, St.alloc, St.drop, killL, kill, killAll, killObs, killOb, upd, cells?, part, retag, retagL, putIn, refFree, refFreeL, isNew, isNewL, Ty.isAgg, splice, idsL, ids, idsLL, reach, depth, St.dropL, resultsV, resultV, ↓reduceIte, Nat.reduceBEq, Nat.reduceAdd, Nat.reduceSub, Nat.reduceMul, Nat.reduceEqDiff, Nat.reduceLeDiff, Nat.reduceLT, effOf, effMem, effStore, effCall, effVar, effLit, effMake, effApp, Eff.ap, lend, evLit, evMake, evNil, freeze, onto, dropO, elemsV, sized, evCmp, eqT, eqG, minV, evUn, evField, evExtract, evIndexA, evIndexV, evSlice, optInt, fillV, placeOf, thawed, del, isNilSlice, plain, plainL, cellsJ, junkOk, St.with, setSlots, setObs, wantedD, seqOf, noRange, setAll, Array.size, te, einl, inls]
                rw [evRegion_dynB]
                rotate_left
                · rfl
                by_cases hfull : cpl (expand xs) (expand xs).reverse = (expand xs).length
                · have h5 : (((cpl (expand xs) (expand xs).reverse : Nat) : Int) == ((expand xs).length : Int)) = true := by rw [hfull]; exact beq_self_eq_true _
                  simp (maxSteps := 1000000) (implicitDefEqProofs := false) only [h5, beq_self_eq_true, Try.ntmps15, Try.results15, efc15, fc15, ss, List.replicate, evOp, evPlain, evVal, evMem, St.eval, St.put, St.get, constV, List.set, lenV, sliceOf, arrayOf, fieldsOf, normOf, norm, firstRegion, look, maskFrom, evBin, evIndexS, evLoad, evVar, evStore, evFieldAddr, nameOf, St.alloc, St.drop, killL, kill, killAll, killObs, killOb, upd, cells?, part, retag, retagL, putIn, refFree, refFreeL, isNew, isNewL, Ty.isAgg, splice, idsL, ids, idsLL, reach, depth, St.dropL, resultsV, resultV, ↓reduceIte, Nat.reduceBEq, Nat.reduceAdd, Nat.reduceSub, Nat.reduceMul, Nat.reduceEqDiff, Nat.reduceLeDiff, Nat.reduceLT, effOf, effMem, effStore, effCall, effVar, effLit, effMake, effApp, Eff.ap, lend, evLit, evMake, evNil, freeze, onto, dropO, elemsV, sized, evCmp, eqT, eqG, minV, evUn, evField, evExtract, evIndexA, evIndexV, evSlice, optInt, fillV, placeOf, thawed, del, isNilSlice, plain, plainL, cellsJ, junkOk, St.with, setSlots, setObs, wantedD, seqOf, noRange, setAll, Array.size, te, einl, inls]
                · have h5 : (((cpl (expand xs) (expand xs).reverse : Nat) : Int) == ((expand xs).length : Int)) = false := by simp; omega
                  obtain ⟨a, h6⟩ : ∃ a, (expand xs)[cpl (expand xs) (expand xs).reverse]? = some a := ⟨_, List.getElem?_eq_getElem (by omega)⟩
                  obtain ⟨b, h7⟩ : ∃ b, (expand xs).reverse[cpl (expand xs) (expand xs).reverse]? = some b := ⟨_, List.getElem?_eq_getElem (by rw [List.length_reverse]; omega)⟩
                  have h8 := cpl_next (expand xs) (expand xs).reverse _ h6
                  rw [h7] at h8
                  have h9 : ((cpl (expand xs) (expand xs).reverse : Nat) : Int) < ((expand xs).length : Int) := by omega
                  have h10 : (a.thick == b.thick && (a.shade == b.shade && a.flaw == b.flaw)) = false := by
                    cases a; cases b
                    simp at h8
                    simp
                    intro x y z
                    exact h8 x.symm y.symm z.symm
                  simp (maxSteps := 1000000) (implicitDefEqProofs := false) only [h5, h6, h7, h9, h10, encMk, beq_self_eq_true, List.getElem?_map, Int.natCast_nonneg, Int.toNat_natCast, Try.ntmps15, Try.results15, efc15, fc15, ss, List.replicate, evOp, evPlain, evVal, evMem, St.eval, St.put, St.get, constV, List.set, lenV, sliceOf, arrayOf, fieldsOf, normOf, norm, firstRegion, look, maskFrom, evBin, evIndexS, evLoad, evVar, evStore, evFieldAddr, nameOf, St.alloc, St.drop, killL, kill, killAll, killObs, killOb, upd, cells?, part, retag, retagL, putIn, refFree, refFreeL, isNew, isNewL, Ty.isAgg, splice, idsL, ids, idsLL, reach, depth, St.dropL, resultsV, resultV, ↓reduceIte, Nat.reduceBEq, Nat.reduceAdd, Nat.reduceSub, Nat.reduceMul, Nat.reduceEqDiff, Nat.reduceLeDiff, Nat.reduceLT, effOf, effMem, effStore, effCall, effVar, effLit, effMake, effApp, Eff.ap, lend, evLit, evMake, evNil, freeze, onto, dropO, elemsV, sized, evCmp, eqT, eqG, minV, evUn, evField, evExtract, evIndexA, evIndexV, evSlice, optInt, fillV, placeOf, thawed, del, isNilSlice, plain, plainL, cellsJ, junkOk, St.with, setSlots, setObs, wantedD, seqOf, noRange, setAll, Array.size, te, einl, inls]
          · have hoe' : (oe == 0) = false := by simpa using hoe
            simp (maxSteps := 1000000) (implicitDefEqProofs := false) only [hoe', ss, List.replicate, evOp, evPlain, evVal, evMem, St.eval, St.put, St.get, constV, List.set, lenV, sliceOf, arrayOf, fieldsOf, normOf, norm, firstRegion, look, maskFrom, evBin, evIndexS, evLoad, evVar, evStore, evFieldAddr, nameOf, St.alloc, St.drop, killL, kill, killAll, killObs, killOb, upd, cells?, part, retag, retagL, putIn, refFree, refFreeL, isNew, isNewL, Ty.isAgg, splice, idsL, ids, idsLL, reach, depth, St.dropL, resultsV, resultV, ↓reduceIte, Nat.reduceBEq, Nat.reduceAdd, Nat.reduceSub, Nat.reduceMul, Nat.reduceEqDiff, Nat.reduceLeDiff, Nat.reduceLT, effOf, effMem, effStore, effCall, effVar, effLit, effMake, effApp, Eff.ap, lend, evLit, evMake, evNil, freeze, onto, dropO, elemsV, sized, evCmp, eqT, eqG, minV, evUn, evField, evExtract, evIndexA, evIndexV, evSlice, optInt, fillV, placeOf, thawed, del, isNilSlice, plain, plainL, cellsJ, junkOk, St.with, setSlots, setObs, wantedD, seqOf, noRange, setAll, Array.size, te, einl, inls]
            simp (maxSteps := 1000000) (implicitDefEqProofs := false) only [hlt, kg, evRegion_calm, ss, List.replicate, evOp, evPlain, evVal, evMem, St.eval, St.put, St.get, constV, List.set, lenV, sliceOf, arrayOf, fieldsOf, normOf, norm, firstRegion, look, maskFrom, evBin, evIndexS, evLoad, evVar, evStore, evFieldAddr, nameOf, St.alloc, St.drop, killL, kill, killAll, killObs, killOb, upd, cells?, part, retag, retagL, putIn, refFree, refFreeL, isNew, isNewL, Ty.isAgg, splice, idsL, ids, idsLL, reach, depth, St.dropL, resultsV, resultV, ↓reduceIte, Nat.reduceBEq, Nat.reduceAdd, Nat.reduceSub, Nat.reduceMul, Nat.reduceEqDiff, Nat.reduceLeDiff, Nat.reduceLT, effOf, effMem, effStore, effCall, effVar, effLit, effMake, effApp, Eff.ap, lend, evLit, evMake, evNil, freeze, onto, dropO, elemsV, sized, evCmp, eqT, eqG, minV, evUn, evField, evExtract, evIndexA, evIndexV, evSlice, optInt, fillV, placeOf, thawed, del, isNilSlice, plain, plainL, cellsJ, junkOk, St.with, setSlots, setObs, wantedD, seqOf, noRange, setAll, Array.size, te, einl, inls]
            generalize hr : loopAt _ _ _ _ _ _ = r; revert r
            refine loop_inv (ι := { i : Nat // i ≤ cpl (expand xs) (expand xs).reverse }) (fun i => [(35, .int .i64 i.1)]) (fun i => [(22, { es := 3, flat := true, t := true, app := true, elems := (expand xs).reverse.map encMk })]) (fun i => cpl (expand xs) (expand xs).reverse - i.1) ⟨0, by omega⟩ (by simp (maxSteps := 1000000) (implicitDefEqProofs := false) only [ss, List.replicate, evOp, evPlain, evVal, evMem, St.eval, St.put, St.get, constV, List.set, lenV, sliceOf, arrayOf, fieldsOf, normOf, norm, firstRegion, look, maskFrom, evBin, evIndexS, evLoad, evVar, evStore, evFieldAddr, nameOf, St.alloc, St.drop, killL, kill, killAll, killObs, killOb, upd, cells?, part, retag, retagL, putIn, refFree, refFreeL, isNew, isNewL, Ty.isAgg, splice, idsL, ids, idsLL, reach, depth, St.dropL, resultsV, resultV, ↓reduceIte, Nat.reduceBEq, Nat.reduceAdd, Nat.reduceSub, Nat.reduceMul, Nat.reduceEqDiff, Nat.reduceLeDiff, Nat.reduceLT, effOf, effMem, effStore, effCall, effVar, effLit, effMake, effApp, Eff.ap, lend, evLit, evMake, evNil, freeze, onto, dropO, elemsV, sized, evCmp, eqT, eqG, minV, evUn, evField, evExtract, evIndexA, evIndexV, evSlice, optInt, fillV, placeOf, thawed, del, isNilSlice, plain, plainL, cellsJ, junkOk, St.with, setSlots, setObs, wantedD, seqOf, noRange, setAll, Array.size, te, einl, inls]) ?_
            rintro ⟨i, hiF⟩
            dsimp only
            have y1 : IntKind.i64.wrap ((i : Int) + 1) = ((i + 1 : Nat) : Int) := by rw [wrap_in (by omega)]; omega
            by_cases hlt2 : (i : Int) < (cpl (expand xs) (expand xs).reverse : Nat)
            · have h0 : i < (expand xs).length := by omega
              have h1 : (expand xs)[i]? = some (expand xs)[i] := List.getElem?_eq_getElem h0
              have h2 : (expand xs).reverse[i]? = some (expand xs)[i] := by
                have := congrArg (fun l : List Mk => l[i]?) (cpl_take (expand xs) (expand xs).reverse)
                rw [List.getElem?_take_of_lt (by omega), List.getElem?_take_of_lt (by omega), h1] at this
                exact this.symm
              generalize (expand xs)[i] = m at *
              have h3 : (m.thick != m.thick || (m.shade != m.shade || m.flaw != m.flaw)) = false := by simp
              have h4 : ((i : Int) < ((expand xs).length : Int)) = True := eq_true (by omega)
              simp (maxSteps := 1000000) (implicitDefEqProofs := false) only [hlt2, ss, List.replicate, evOp, evPlain, evVal, evMem, St.eval, St.put, St.get, constV, List.set, lenV, sliceOf, arrayOf, fieldsOf, normOf, norm, firstRegion, look, maskFrom, evBin, evIndexS, evLoad, evVar, evStore, evFieldAddr, nameOf, St.alloc, St.drop, killL, kill, killAll, killObs, killOb, upd, cells?, part, retag, retagL, putIn, refFree, refFreeL, isNew, isNewL, Ty.isAgg, splice, idsL, ids, idsLL, reach, depth, St.dropL, resultsV, resultV, ↓reduceIte, Nat.reduceBEq, Nat.reduceAdd, Nat.reduceSub, Nat.reduceMul, Nat.reduceEqDiff, Nat.reduceLeDiff, Nat.reduceLT, effOf, effMem, effStore, effCall, effVar, effLit, effMake, effApp, Eff.ap, lend, evLit, evMake, evNil, freeze, onto, dropO, elemsV, sized, evCmp, eqT, eqG, minV, evUn, evField, evExtract, evIndexA, evIndexV, evSlice, optInt, fillV, placeOf, thawed, del, isNilSlice, plain, plainL, cellsJ, junkOk, St.with, setSlots, setObs, wantedD, seqOf, noRange, setAll, Array.size, te, einl, inls]
              rw [evRegion_dynB]
              rotate_left
              · rfl
              simp (maxSteps := 1000000) (implicitDefEqProofs := false) only [y1, h1, h2, h4, encMk, bne_self_eq_false, beq_self_eq_true, Bool.true_and, Bool.not_true, List.getElem?_map, Int.natCast_nonneg, Int.toNat_natCast, ss, List.replicate, evOp, evPlain, evVal, evMem, St.eval, St.put, St.get, constV, List.set, lenV, sliceOf, arrayOf, fieldsOf, normOf, norm, firstRegion, look, maskFrom, evBin, evIndexS, evLoad, evVar, evStore, evFieldAddr, nameOf, St.alloc, St.drop, killL, kill, killAll, killObs, killOb, upd, cells?, part, retag, retagL, putIn, refFree, refFreeL, isNew, isNewL, Ty.isAgg, splice, idsL, ids, idsLL, reach, depth, St.dropL, resultsV, resultV, ↓reduceIte, Nat.reduceBEq, Nat.reduceAdd, Nat.reduceSub, Nat.reduceMul, Nat.reduceEqDiff, Nat.reduceLeDiff, Nat.reduceLT, effOf, effMem, effStore, effCall, effVar, effLit, effMake, effApp, Eff.ap, lend, evLit, evMake, evNil, freeze, onto, dropO, elemsV, sized, evCmp, eqT, eqG, minV, evUn, evField, evExtract, evIndexA, evIndexV, evSlice, optInt, fillV, placeOf, thawed, del, isNilSlice, plain, plainL, cellsJ, junkOk, St.with, setSlots, setObs, wantedD, seqOf, noRange, setAll, Array.size, te, einl, inls]
              exact ⟨⟨i + 1, by omega⟩, rfl, by dsimp only; omega⟩
            · obtain rfl : i = cpl (expand xs) (expand xs).reverse := by omega
              simp (maxSteps := 1000000) (implicitDefEqProofs := false) only [hlt2, ss, List.replicate, evOp, evPlain, evVal, evMem, St.eval, St.put, St.get, constV, List.set, lenV, sliceOf, arrayOf, fieldsOf, normOf, norm, firstRegion, look, maskFrom, evBin, evIndexS, evLoad, evVar, evStore, evFieldAddr, nameOf, St.alloc, St.drop, killL, kill, killAll, killObs, killOb, upd, cells?, part, retag, retagL, putIn, refFree, refFreeL, isNew, isNewL, Ty.isAgg, splice, idsL, ids, idsLL, reach, depth, St.dropL, resultsV, resultV, ↓reduceIte, Nat.reduceBEq, Nat.reduceAdd, Nat.reduceSub, Nat.reduceMul, Nat.reduceEqDiff, Nat.reduceLeDiff, Nat.reduceLT, effOf, effMem, effStore, effCall, effVar, effLit, effMake, effApp, Eff.ap, lend, evLit, evMake, evNil, freeze, onto, dropO, elemsV, sized, evCmp, eqT, eqG, minV, evUn, evField, evExtract, evIndexA, evIndexV, evSlice, optInt, fillV, placeOf, thawed, del, isNilSlice, plain, plainL, cellsJ, junkOk, St.with, setSlots, setObs, wantedD, seqOf, noRange, setAll, Array.size, te, einl, inls]
              rw [evRegion_dynB]
              rotate_left
              · rfl
              by_cases hfull : cpl (expand xs) (expand xs).reverse = (expand xs).length
              · have h5 : (((cpl (expand xs) (expand xs).reverse : Nat) : Int) == ((expand xs).length : Int)) = true := by rw [hfull]; exact beq_self_eq_true _
                simp (maxSteps := 1000000) (implicitDefEqProofs := false) only [h5, beq_self_eq_true, Try.ntmps15, Try.results15, efc15, fc15, ss, List.replicate, evOp, evPlain, evVal, evMem, St.eval, St.put, St.get, constV, List.set, lenV, sliceOf, arrayOf, fieldsOf, normOf, norm, firstRegion, look, maskFrom, evBin, evIndexS, evLoad, evVar, evStore, evFieldAddr, nameOf, St.alloc, St.drop, killL, kill, killAll, killObs, killOb, upd, cells?, part, retag, retagL, putIn, refFree, refFreeL, isNew, isNewL, Ty.isAgg, splice, idsL, ids, idsLL, reach, depth, St.dropL, resultsV, resultV, ↓reduceIte, Nat.reduceBEq, Nat.reduceAdd, Nat.reduceSub, Nat.reduceMul, Nat.reduceEqDiff, Nat.reduceLeDiff, Nat.reduceLT, effOf, effMem, effStore, effCall, effVar, effLit, effMake, effApp, Eff.ap, lend, evLit, evMake, evNil, freeze, onto, dropO, elemsV, sized, evCmp, eqT, eqG, minV, evUn, evField, evExtract, evIndexA, evIndexV, evSlice, optInt, fillV, placeOf, thawed, del, isNilSlice, plain, plainL, cellsJ, junkOk, St.with, setSlots, setObs, wantedD, seqOf, noRange, setAll, Array.size, te, einl, inls]
              · have h5 : (((cpl (expand xs) (expand xs).reverse : Nat) : Int) == ((expand xs).length : Int)) = false := by simp; omega
                obtain ⟨a, h6⟩ : ∃ a, (expand xs)[cpl (expand xs) (expand xs).reverse]? = some a := ⟨_, List.getElem?_eq_getElem (by omega)⟩
                obtain ⟨b, h7⟩ : ∃ b, (expand xs).reverse[cpl (expand xs) (expand xs).reverse]? = some b := ⟨_, List.getElem?_eq_getElem (by rw [List.length_reverse]; omega)⟩
                have h8 := cpl_next (expand xs) (expand xs).reverse _ h6
                rw [h7] at h8
                have h9 : ((cpl (expand xs) (expand xs).reverse : Nat) : Int) < ((expand xs).length : Int) := by omega
                have h10 : (a.thick == b.thick && (a.shade == b.shade && a.flaw == b.flaw)) = false := by
                  cases a; cases b
                  simp at h8
                  simp
                  intro x y z
                  exact h8 x.symm y.symm z.symm
                simp (maxSteps := 1000000) (implicitDefEqProofs := false) only [h5, h6, h7, h9, h10, encMk, beq_self_eq_true, List.getElem?_map, Int.natCast_nonneg, Int.toNat_natCast, Try.ntmps15, Try.results15, efc15, fc15, ss, List.replicate, evOp, evPlain, evVal, evMem, St.eval, St.put, St.get, constV, List.set, lenV, sliceOf, arrayOf, fieldsOf, normOf, norm, firstRegion, look, maskFrom, evBin, evIndexS, evLoad, evVar, evStore, evFieldAddr, nameOf, St.alloc, St.drop, killL, kill, killAll, killObs, killOb, upd, cells?, part, retag, retagL, putIn, refFree, refFreeL, isNew, isNewL, Ty.isAgg, splice, idsL, ids, idsLL, reach, depth, St.dropL, resultsV, resultV, ↓reduceIte, Nat.reduceBEq, Nat.reduceAdd, Nat.reduceSub, Nat.reduceMul, Nat.reduceEqDiff, Nat.reduceLeDiff, Nat.reduceLT, effOf, effMem, effStore, effCall, effVar, effLit, effMake, effApp, Eff.ap, lend, evLit, evMake, evNil, freeze, onto, dropO, elemsV, sized, evCmp, eqT, eqG, minV, evUn, evField, evExtract, evIndexA, evIndexV, evSlice, optInt, fillV, placeOf, thawed, del, isNilSlice, plain, plainL, cellsJ, junkOk, St.with, setSlots, setObs, wantedD, seqOf, noRange, setAll, Array.size, te, einl, inls]
    · have hw' : (validate ys != 0) = true := by simpa using hw
      unfold lengthM at k3 k4
      rw [if_pos hv] at k3
      rw [if_neg hw] at k4
      simp only [encLen] at k3 k4
      simp (maxSteps := 1000000) (implicitDefEqProofs := false) only [Try.ntmps15, Try.results15, efc15, fc15, k0, k1, k2, k3, k4, hw', bne_self_eq_false, ss, List.replicate, evOp, evPlain, evVal, evMem, St.eval, St.put, St.get, constV, List.set, lenV, sliceOf, arrayOf, fieldsOf, normOf, norm, firstRegion, look, maskFrom, evBin, evIndexS, evLoad, evVar, evStore, evFieldAddr, nameOf, St.alloc, St.drop, killL, kill, killAll, killObs, killOb, upd, cells?, part, retag, retagL, putIn, refFree, refFreeL, isNew, isNewL, Ty.isAgg, splice, idsL, ids, idsLL, reach, depth, St.dropL, resultsV, resultV, ↓reduceIte, Nat.reduceBEq, Nat.reduceAdd, Nat.reduceSub, Nat.reduceMul, Nat.reduceEqDiff, Nat.reduceLeDiff, Nat.reduceLT, effOf, effMem, effStore, effCall, effVar, effLit, effMake, effApp, Eff.ap, lend, evLit, evMake, evNil, freeze, onto, dropO, elemsV, sized, evCmp, eqT, eqG, minV, evUn, evField, evExtract, evIndexA, evIndexV, evSlice, optInt, fillV, placeOf, thawed, del, isNilSlice, plain, plainL, cellsJ, junkOk, St.with, setSlots, setObs, wantedD, seqOf, noRange, setAll, Array.size, te, einl, inls]
  · have hv' : (validate xs != 0) = true := by simpa using hv
    unfold lengthM at k3
    rw [if_neg hv] at k3
    generalize lengthM ys = L at *
    obtain ⟨a, b⟩ := L
    simp only [encLen] at k3 k4
    simp (maxSteps := 1000000) (implicitDefEqProofs := false) only [Try.ntmps15, Try.results15, efc15, fc15, k0, k1, k2, k3, k4, hv', bne_self_eq_false, ss, List.replicate, evOp, evPlain, evVal, evMem, St.eval, St.put, St.get, constV, List.set, lenV, sliceOf, arrayOf, fieldsOf, normOf, norm, firstRegion, look, maskFrom, evBin, evIndexS, evLoad, evVar, evStore, evFieldAddr, nameOf, St.alloc, St.drop, killL, kill, killAll, killObs, killOb, upd, cells?, part, retag, retagL, putIn, refFree, refFreeL, isNew, isNewL, Ty.isAgg, splice, idsL, ids, idsLL, reach, depth, St.dropL, resultsV, resultV, ↓reduceIte, Nat.reduceBEq, Nat.reduceAdd, Nat.reduceSub, Nat.reduceMul, Nat.reduceEqDiff, Nat.reduceLeDiff, Nat.reduceLT, effOf, effMem, effStore, effCall, effVar, effLit, effMake, effApp, Eff.ap, lend, evLit, evMake, evNil, freeze, onto, dropO, elemsV, sized, evCmp, eqT, eqG, minV, evUn, evField, evExtract, evIndexA, evIndexV, evSlice, optInt, fillV, placeOf, thawed, del, isNilSlice, plain, plainL, cellsJ, junkOk, St.with, setSlots, setObs, wantedD, seqOf, noRange, setAll, Array.size, te, einl, inls]

end Go.AM.A
