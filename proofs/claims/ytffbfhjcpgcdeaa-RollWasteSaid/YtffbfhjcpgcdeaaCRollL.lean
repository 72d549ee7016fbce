import Derived.Test.YtffbfhjcpgcdeaaCRollK
set_option linter.unusedSimpArgs false

namespace Go.AM.C
open Go Go.Proofs

theorem hold_step {ms : List Mk} {l : List Art} {us : List Int} (hr : rightB us ms.length = true) (hc : coverB ms l us = true) (hl : validA l = 0) : ∀ {ps : List (Int × Int)} {e : Int}, 0 ≤ e → e ≤ (ms.length : Int) → checkL ms l e ps = 0 → sumP l ps + at0 us e.toNat ≤ at0 us ms.length
  | [], e, h0, h1, _ => by
    have := sort_le (right_iff.1 hr).2.2.1 (i := e.toNat) (j := ms.length) (by omega) (by have := (right_iff.1 hr).1; omega)
    simp [sumP]
    exact this
  | p :: ps, e, h0, h1, h => by
    rw [checkL] at h
    split at h
    · rename_i hf
      split at h
      · cases h
      · rename_i hlt
        obtain ⟨a, f1, f2, f3, f4, f5, f6, f7, _⟩ := fits_in hf
        have hmem := List.mem_of_getElem? f1
        have a2 := (validA_len hl).2 a hmem
        rw [f6] at h
        have ih := hold_step hr hc hl (ps := ps) (e := p.1 + a.len) (by omega) (by omega) h
        have h2 := coverB_iff.1 hc a hmem p.1.toNat (by omega)
        unfold coverI at h2
        rw [fitsM_some f2 f1] at hf
        rw [Int.toNat_of_nonneg f4, hf] at h2
        simp only [Bool.not_true, Bool.false_or, decide_eq_true_eq] at h2
        have h3 := sort_le (right_iff.1 hr).2.2.1 (i := e.toNat) (j := p.1.toNat) (by omega) (by have := (right_iff.1 hr).1; omega)
        have h4 : sumP l (p :: ps) = priceAt l p.2 + sumP l ps := by simp [sumP]
        rw [h4, f7]
        rw [show (p.1 + a.len).toNat = p.1.toNat + a.len.toNat by omega] at ih
        omega
    · cases h

theorem bound_holds {xs : List Run} {l : List Art} {us : List Int} {ps : List (Int × Int)} (h1 : (boundR xs l us).2 = 0) (h2 : (valueR xs l ps).2 = 0) : (valueR xs l ps).1 ≤ (boundR xs l us).1 := by
  unfold boundR at h1 ⊢
  unfold valueR accE at h2 ⊢
  by_cases he : errM xs l = 0
  · rw [if_pos he] at h1 h2 ⊢
    rw [if_pos he]
    by_cases hr : rightB us (expand xs).length = true
    · rw [if_pos hr] at h1 ⊢
      by_cases hc : coverB (expand xs) l us = true
      · rw [if_pos hc] at h1 ⊢
        by_cases ha : checkL (expand xs) l 0 ps = 0
        · rw [if_pos ha]
          have := hold_step hr hc (errM_zero he).2.2 (ps := ps) (e := 0) (Int.le_refl _) (by omega) ha
          rw [show (0 : Int).toNat = 0 from rfl, (right_iff.1 hr).2.1] at this
          dsimp only; omega
        · rw [if_neg ha] at h2; exact absurd h2 ha
      · rw [if_neg hc] at h1; cases h1
    · rw [if_neg hr] at h1; cases h1
  · rw [if_neg he] at h1; exact absurd h1 he

theorem c13 (xs : List Run) (l : List Art) (us : List Int) (ps : List (Int × Int)) : (orcω E X0).call 13 [.sl false (xs.map encRun), .sl false (l.map encArt), .agg [.sl false (us.map vI), .sl false (ps.map encPc)]] = some (.bool true) := by
  refine call_of rfl fn13 rfl ?_
  have k1 := c16 xs l false (ps.map encPc)
  rw [List.length_map] at k1
  cases hlong : long xs l ps.length with
  | true =>
    rw [hlong] at k1
    simp (maxSteps := 1000000) (implicitDefEqProofs := false) only [Try.ntmps13, Try.results13, efc13, k1, c17, ss, List.replicate, evOp, evPlain, evVal, evMem, St.eval, St.put, St.get, constV, List.set, lenV, sliceOf, arrayOf, fieldsOf, normOf, norm, firstRegion, look, maskFrom, evBin, evIndexS, evLoad, evVar, evStore, evFieldAddr, nameOf, St.alloc, St.drop, killL, kill, killAll, killObs, killOb, upd, cells?, part, retag, retagL, putIn, refFree, refFreeL, isNew, isNewL, Ty.isAgg, splice, idsL, ids, idsLL, reach, depth, St.dropL, resultsV, resultV, ↓reduceIte, Nat.reduceBEq, Nat.reduceAdd, Nat.reduceSub, Nat.reduceMul, Nat.reduceEqDiff, Nat.reduceLeDiff, Nat.reduceLT, effOf, effMem, effStore, effCall, effVar, effLit, effMake, effApp, Eff.ap, lend, evLit, evMake, evNil, freeze, onto, dropO, elemsV, sized, evCmp, eqT, eqG, minV, evUn, evField, evExtract, evIndexA, evIndexV, evSlice, optInt, fillV, placeOf, thawed, del, isNilSlice, plain, plainL, cellsJ, junkOk, St.with, setSlots, setObs, wantedD, seqOf, noRange, setAll, Array.size, te, einl, inls]
  | false =>
    rw [hlong] at k1
    by_cases hu : (1000 : Int) < us.length
    · simp (maxSteps := 1000000) (implicitDefEqProofs := false) only [Try.ntmps13, Try.results13, efc13, k1, hu, c17, ss, List.replicate, evOp, evPlain, evVal, evMem, St.eval, St.put, St.get, constV, List.set, lenV, sliceOf, arrayOf, fieldsOf, normOf, norm, firstRegion, look, maskFrom, evBin, evIndexS, evLoad, evVar, evStore, evFieldAddr, nameOf, St.alloc, St.drop, killL, kill, killAll, killObs, killOb, upd, cells?, part, retag, retagL, putIn, refFree, refFreeL, isNew, isNewL, Ty.isAgg, splice, idsL, ids, idsLL, reach, depth, St.dropL, resultsV, resultV, ↓reduceIte, Nat.reduceBEq, Nat.reduceAdd, Nat.reduceSub, Nat.reduceMul, Nat.reduceEqDiff, Nat.reduceLeDiff, Nat.reduceLT, effOf, effMem, effStore, effCall, effVar, effLit, effMake, effApp, Eff.ap, lend, evLit, evMake, evNil, freeze, onto, dropO, elemsV, sized, evCmp, eqT, eqG, minV, evUn, evField, evExtract, evIndexA, evIndexV, evSlice, optInt, fillV, placeOf, thawed, del, isNilSlice, plain, plainL, cellsJ, junkOk, St.with, setSlots, setObs, wantedD, seqOf, noRange, setAll, Array.size, te, einl, inls]
    · unfold long at hlong
      simp only [Bool.or_eq_false_iff, decide_eq_false_iff_not] at hlong
      have k2 := c31 xs l us (by omega) (by omega) (by omega)
      have k3 := c33 xs l ps (by omega) (by omega) (by omega)
      have hb := bound_holds (xs := xs) (l := l) (us := us) (ps := ps)
      generalize boundR xs l us = R at *
      generalize valueR xs l ps = U at *
      obtain ⟨n, e⟩ := R
      obtain ⟨m, f⟩ := U
      simp only [encLen] at k2 k3
      dsimp only at hb
      by_cases h1 : e = 0
      · by_cases h2 : f = 0
        · have h3 := hb h1 h2
          subst h1; subst h2
          simp (maxSteps := 1000000) (implicitDefEqProofs := false) only [Try.ntmps13, Try.results13, efc13, k1, k2, k3, hu, h3, c17, bne_self_eq_false, beq_self_eq_true, ss, List.replicate, evOp, evPlain, evVal, evMem, St.eval, St.put, St.get, constV, List.set, lenV, sliceOf, arrayOf, fieldsOf, normOf, norm, firstRegion, look, maskFrom, evBin, evIndexS, evLoad, evVar, evStore, evFieldAddr, nameOf, St.alloc, St.drop, killL, kill, killAll, killObs, killOb, upd, cells?, part, retag, retagL, putIn, refFree, refFreeL, isNew, isNewL, Ty.isAgg, splice, idsL, ids, idsLL, reach, depth, St.dropL, resultsV, resultV, ↓reduceIte, Nat.reduceBEq, Nat.reduceAdd, Nat.reduceSub, Nat.reduceMul, Nat.reduceEqDiff, Nat.reduceLeDiff, Nat.reduceLT, effOf, effMem, effStore, effCall, effVar, effLit, effMake, effApp, Eff.ap, lend, evLit, evMake, evNil, freeze, onto, dropO, elemsV, sized, evCmp, eqT, eqG, minV, evUn, evField, evExtract, evIndexA, evIndexV, evSlice, optInt, fillV, placeOf, thawed, del, isNilSlice, plain, plainL, cellsJ, junkOk, St.with, setSlots, setObs, wantedD, seqOf, noRange, setAll, Array.size, te, einl, inls]
        · have h2' : (f != 0) = true := by simpa using h2
          subst h1
          simp (maxSteps := 1000000) (implicitDefEqProofs := false) only [Try.ntmps13, Try.results13, efc13, k1, k2, k3, hu, h2', c17, bne_self_eq_false, beq_self_eq_true, ss, List.replicate, evOp, evPlain, evVal, evMem, St.eval, St.put, St.get, constV, List.set, lenV, sliceOf, arrayOf, fieldsOf, normOf, norm, firstRegion, look, maskFrom, evBin, evIndexS, evLoad, evVar, evStore, evFieldAddr, nameOf, St.alloc, St.drop, killL, kill, killAll, killObs, killOb, upd, cells?, part, retag, retagL, putIn, refFree, refFreeL, isNew, isNewL, Ty.isAgg, splice, idsL, ids, idsLL, reach, depth, St.dropL, resultsV, resultV, ↓reduceIte, Nat.reduceBEq, Nat.reduceAdd, Nat.reduceSub, Nat.reduceMul, Nat.reduceEqDiff, Nat.reduceLeDiff, Nat.reduceLT, effOf, effMem, effStore, effCall, effVar, effLit, effMake, effApp, Eff.ap, lend, evLit, evMake, evNil, freeze, onto, dropO, elemsV, sized, evCmp, eqT, eqG, minV, evUn, evField, evExtract, evIndexA, evIndexV, evSlice, optInt, fillV, placeOf, thawed, del, isNilSlice, plain, plainL, cellsJ, junkOk, St.with, setSlots, setObs, wantedD, seqOf, noRange, setAll, Array.size, te, einl, inls]
      · have h1' : (e != 0) = true := by simpa using h1
        simp (maxSteps := 1000000) (implicitDefEqProofs := false) only [Try.ntmps13, Try.results13, efc13, k1, k2, k3, hu, h1', c17, bne_self_eq_false, beq_self_eq_true, ss, List.replicate, evOp, evPlain, evVal, evMem, St.eval, St.put, St.get, constV, List.set, lenV, sliceOf, arrayOf, fieldsOf, normOf, norm, firstRegion, look, maskFrom, evBin, evIndexS, evLoad, evVar, evStore, evFieldAddr, nameOf, St.alloc, St.drop, killL, kill, killAll, killObs, killOb, upd, cells?, part, retag, retagL, putIn, refFree, refFreeL, isNew, isNewL, Ty.isAgg, splice, idsL, ids, idsLL, reach, depth, St.dropL, resultsV, resultV, ↓reduceIte, Nat.reduceBEq, Nat.reduceAdd, Nat.reduceSub, Nat.reduceMul, Nat.reduceEqDiff, Nat.reduceLeDiff, Nat.reduceLT, effOf, effMem, effStore, effCall, effVar, effLit, effMake, effApp, Eff.ap, lend, evLit, evMake, evNil, freeze, onto, dropO, elemsV, sized, evCmp, eqT, eqG, minV, evUn, evField, evExtract, evIndexA, evIndexV, evSlice, optInt, fillV, placeOf, thawed, del, isNilSlice, plain, plainL, cellsJ, junkOk, St.with, setSlots, setObs, wantedD, seqOf, noRange, setAll, Array.size, te, einl, inls]

end Go.AM.C
