/-
The law: no amounts cost less than a bound.
-/
import Derived.Test.YtkacpekakpbalaaEComp
import Derived.Test.YtkacpekakpbalaaEWide
set_option linter.unusedSimpArgs false

namespace Go.AM.E
open Go Go.AM Go.Proofs

theorem proofB_iff {b : Blend} {p : Pr} : proofB b p = true ↔ Valid b ∧ RightP b p ∧ (∀ i, i < b.cs.length → gainAt b p i ≤ 0) ∧ 0 < valueM b p := by
  unfold proofB
  simp only [Bool.and_eq_true, decide_eq_true_eq, Bool.not_eq_true', gainB_iff, rightP_iff]
  constructor
  · rintro ⟨⟨⟨h1, h2⟩, h3⟩, h4⟩
    exact ⟨errV_zero h1, h2, fun i hi => by have := h3 i hi; omega, h4⟩
  · rintro ⟨h1, h2, h3, h4⟩
    exact ⟨⟨⟨errV_yes h1, h2⟩, fun i hi => by have := h3 i hi; omega⟩, h4⟩
theorem costR_ok {b : Blend} {x : Amts} (h : checkE b x = 0) : costR b x = makeR (costM b x.x) x.den := by
  obtain ⟨hv, hr, _⟩ := checkE_zero h
  unfold costR
  rw [if_pos (errV_yes hv), if_pos (rightM_iff.2 hr)]
theorem boundR_ok {b : Blend} {p : Pr} (h : (boundR b p).2.2 = 0) : Valid b ∧ RightP b p ∧ (∀ i, i < b.cs.length → gainAt b p i ≤ p.den * coAt b i) ∧ boundR b p = makeR (valueM b p) p.den := by
  unfold boundR at h ⊢
  split at h
  · rename_i h1
    rw [if_pos h1]
    split at h
    · rename_i h2
      rw [if_pos h2]
      split at h
      · cases h
      · rename_i h3
        rw [if_neg h3]
        exact ⟨errV_zero h1, rightP_iff.1 h2, fun i hi => by have := dear_iff.1 (by simpa using h3) i hi; omega, rfl⟩
    · cases h
  · cases h
/-- Nothing is accepted beside a proof. -/
theorem proof_none {b : Blend} {x : Amts} {p : Pr} (hx : checkE b x = 0) : proofB b p = false := by
  cases hp : proofB b p with
  | false => rfl
  | true =>
    obtain ⟨hv, hr, hg, hV⟩ := proofB_iff.1 hp
    obtain ⟨_, rx, _⟩ := checkE_zero hx
    have := weak_all (d := 0) hv (fun n hn => (hr.2.2.2.2.2.1 n hn).1) (fun n hn => (hr.2.2.2.2.2.2.1 n hn).1) (fun n hn => (hr.2.2.2.2.2.2.2 n hn).1) hx (fun i hi => by have := hg i hi; omega)
    rw [Int.zero_mul] at this
    have h1 := Int.mul_pos (show 0 < x.den by have := rx.1; omega) hV
    omega
/-- An accepted bound is at most the cost of accepted amounts. -/
theorem bound_le {b : Blend} {x : Amts} {p : Pr} {n d m e : Int} (hx : checkE b x = 0) (h1 : costR b x = (n, d, 0)) (h2 : boundR b p = (m, e, 0)) : Rat' (n, d) ∧ Rat' (m, e) ∧ m * d ≤ n * e := by
  obtain ⟨_, rx, _⟩ := checkE_zero hx
  obtain ⟨hv, hr, hg, hB⟩ := boundR_ok (b := b) (p := p) (by rw [h2])
  rw [costR_ok hx] at h1
  rw [hB] at h2
  have d1 := rx.1
  have d2 := hr.1
  refine ⟨(make_ok d1.1 h1).1, (make_ok d2.1 h2).1, make_le d1.1 d2.1 h1 h2 ?_⟩
  have := weak_all (d := p.den) hv (fun n hn => (hr.2.2.2.2.2.1 n hn).1) (fun n hn => (hr.2.2.2.2.2.2.1 n hn).1) (fun n hn => (hr.2.2.2.2.2.2.2 n hn).1) hx hg
  rw [Int.mul_comm] at this
  rw [Int.mul_comm p.den] at this
  exact this

set_option maxRecDepth 20000 in
set_option maxHeartbeats 8000000 in
theorem c10 (b : Blend) (x : Amts) (p : Pr) : (orcω E XS).call 10 [encBlend b, encAmts x, encPr p] = some (.bool true) := by
  refine call_of rfl fn10 rfl ?_
  have k0 := c17
  have k1 := c26 b
  have k2 := c25 b x
  have k3 := c30 b p
  have k4 := c28 b x
  have k5 := c29 b p
  have q1 : ∀ {e : Int}, ¬ e = 0 → (e != 0) = true := fun h => by simpa using h
  have hpn := proof_none (b := b) (x := x) (p := p)
  have hbl := fun n d m e => bound_le (b := b) (x := x) (p := p) (n := n) (d := d) (m := m) (e := e)
  unfold encR at k4 k5
  generalize wideM b = wb at *
  generalize checkE b x = ce at *
  generalize proofB b p = pb at *
  generalize costR b x = cr at *
  generalize boundR b p = br at *
  obtain ⟨tot, cs, lo, hb⟩ := b
  obtain ⟨den, x⟩ := x
  obtain ⟨pd, y, u, v, w⟩ := p
  simp only [encBlend, encAmts, encPr] at k1 k2 k3 k4 k5 ⊢
  obtain ⟨n, d, e1⟩ := cr
  obtain ⟨m, e, e2⟩ := br
  dsimp only at *
  cases wb with
  | true => simp (maxSteps := 1000000) (implicitDefEqProofs := false) only [Try.ntmps10, Try.results10, efc10, k0, k1, ss, List.replicate, evOp, evPlain, evVal, evMem, St.eval, St.put, St.get, constV, List.set, lenV, sliceOf, arrayOf, fieldsOf, normOf, norm, firstRegion, look, maskFrom, evBin, evIndexS, evLoad, evVar, evStore, evFieldAddr, nameOf, St.alloc, St.drop, killL, kill, killAll, killObs, killOb, upd, cells?, part, retag, retagL, putIn, refFree, refFreeL, isNew, isNewL, Ty.isAgg, splice, idsL, ids, idsLL, reach, depth, St.dropL, resultsV, resultV, ↓reduceIte, Nat.reduceBEq, Nat.reduceAdd, Nat.reduceSub, Nat.reduceMul, Nat.reduceEqDiff, Nat.reduceLeDiff, Nat.reduceLT, effOf, effMem, effStore, effCall, effVar, effLit, effMake, effApp, Eff.ap, lend, evLit, evMake, evNil, freeze, onto, dropO, elemsV, sized, evCmp, eqT, eqG, minV, evUn, evField, evExtract, evIndexA, evIndexV, evSlice, optInt, fillV, placeOf, thawed, del, isNilSlice, plain, plainL, cellsJ, junkOk, evLook, evMap, evEnter, effEnter, findV, mapOf, keyOk, evFrame, unframe, closed, fixed, sameEs, pickObs, putObs, wit, sameWit, Option.isSome_some, evNilCheck, St.with, setSlots, setObs, wantedD, seqOf, noRange, setAll, Array.size, te, einl, inls, efr]
  | false =>
  by_cases h1 : ce = 0
  rotate_left
  · have p1 := q1 h1
    simp (maxSteps := 1000000) (implicitDefEqProofs := false) only [Try.ntmps10, Try.results10, efc10, k0, k1, k2, p1, ss, List.replicate, evOp, evPlain, evVal, evMem, St.eval, St.put, St.get, constV, List.set, lenV, sliceOf, arrayOf, fieldsOf, normOf, norm, firstRegion, look, maskFrom, evBin, evIndexS, evLoad, evVar, evStore, evFieldAddr, nameOf, St.alloc, St.drop, killL, kill, killAll, killObs, killOb, upd, cells?, part, retag, retagL, putIn, refFree, refFreeL, isNew, isNewL, Ty.isAgg, splice, idsL, ids, idsLL, reach, depth, St.dropL, resultsV, resultV, ↓reduceIte, Nat.reduceBEq, Nat.reduceAdd, Nat.reduceSub, Nat.reduceMul, Nat.reduceEqDiff, Nat.reduceLeDiff, Nat.reduceLT, effOf, effMem, effStore, effCall, effVar, effLit, effMake, effApp, Eff.ap, lend, evLit, evMake, evNil, freeze, onto, dropO, elemsV, sized, evCmp, eqT, eqG, minV, evUn, evField, evExtract, evIndexA, evIndexV, evSlice, optInt, fillV, placeOf, thawed, del, isNilSlice, plain, plainL, cellsJ, junkOk, evLook, evMap, evEnter, effEnter, findV, mapOf, keyOk, evFrame, unframe, closed, fixed, sameEs, pickObs, putObs, wit, sameWit, Option.isSome_some, evNilCheck, St.with, setSlots, setObs, wantedD, seqOf, noRange, setAll, Array.size, te, einl, inls, efr]
  subst h1
  have hpf := hpn rfl
  subst hpf
  by_cases h2 : e1 = 0
  rotate_left
  · have p1 := q1 h2
    simp (maxSteps := 1000000) (implicitDefEqProofs := false) only [Try.ntmps10, Try.results10, efc10, k0, k1, k2, k3, k4, k5, p1, bne_self_eq_false, ss, List.replicate, evOp, evPlain, evVal, evMem, St.eval, St.put, St.get, constV, List.set, lenV, sliceOf, arrayOf, fieldsOf, normOf, norm, firstRegion, look, maskFrom, evBin, evIndexS, evLoad, evVar, evStore, evFieldAddr, nameOf, St.alloc, St.drop, killL, kill, killAll, killObs, killOb, upd, cells?, part, retag, retagL, putIn, refFree, refFreeL, isNew, isNewL, Ty.isAgg, splice, idsL, ids, idsLL, reach, depth, St.dropL, resultsV, resultV, ↓reduceIte, Nat.reduceBEq, Nat.reduceAdd, Nat.reduceSub, Nat.reduceMul, Nat.reduceEqDiff, Nat.reduceLeDiff, Nat.reduceLT, effOf, effMem, effStore, effCall, effVar, effLit, effMake, effApp, Eff.ap, lend, evLit, evMake, evNil, freeze, onto, dropO, elemsV, sized, evCmp, eqT, eqG, minV, evUn, evField, evExtract, evIndexA, evIndexV, evSlice, optInt, fillV, placeOf, thawed, del, isNilSlice, plain, plainL, cellsJ, junkOk, evLook, evMap, evEnter, effEnter, findV, mapOf, keyOk, evFrame, unframe, closed, fixed, sameEs, pickObs, putObs, wit, sameWit, Option.isSome_some, evNilCheck, St.with, setSlots, setObs, wantedD, seqOf, noRange, setAll, Array.size, te, einl, inls, efr]
  subst h2
  by_cases h3 : e2 = 0
  rotate_left
  · have p1 := q1 h3
    simp (maxSteps := 1000000) (implicitDefEqProofs := false) only [Try.ntmps10, Try.results10, efc10, k0, k1, k2, k3, k4, k5, p1, bne_self_eq_false, ss, List.replicate, evOp, evPlain, evVal, evMem, St.eval, St.put, St.get, constV, List.set, lenV, sliceOf, arrayOf, fieldsOf, normOf, norm, firstRegion, look, maskFrom, evBin, evIndexS, evLoad, evVar, evStore, evFieldAddr, nameOf, St.alloc, St.drop, killL, kill, killAll, killObs, killOb, upd, cells?, part, retag, retagL, putIn, refFree, refFreeL, isNew, isNewL, Ty.isAgg, splice, idsL, ids, idsLL, reach, depth, St.dropL, resultsV, resultV, ↓reduceIte, Nat.reduceBEq, Nat.reduceAdd, Nat.reduceSub, Nat.reduceMul, Nat.reduceEqDiff, Nat.reduceLeDiff, Nat.reduceLT, effOf, effMem, effStore, effCall, effVar, effLit, effMake, effApp, Eff.ap, lend, evLit, evMake, evNil, freeze, onto, dropO, elemsV, sized, evCmp, eqT, eqG, minV, evUn, evField, evExtract, evIndexA, evIndexV, evSlice, optInt, fillV, placeOf, thawed, del, isNilSlice, plain, plainL, cellsJ, junkOk, evLook, evMap, evEnter, effEnter, findV, mapOf, keyOk, evFrame, unframe, closed, fixed, sameEs, pickObs, putObs, wit, sameWit, Option.isSome_some, evNilCheck, St.with, setSlots, setObs, wantedD, seqOf, noRange, setAll, Array.size, te, einl, inls, efr]
  subst h3
  obtain ⟨r1, r2, hle⟩ := hbl n d m e rfl rfl rfl
  have k6 := c33 n d m e r1 r2
  have hc : (0 : Int) ≤ cmpI (n * e) (m * d) := cmpI_pos.2 hle
  simp (maxSteps := 1000000) (implicitDefEqProofs := false) only [Try.ntmps10, Try.results10, efc10, k0, k1, k2, k3, k4, k5, k6, hc, bne_self_eq_false, beq_self_eq_true, ss, List.replicate, evOp, evPlain, evVal, evMem, St.eval, St.put, St.get, constV, List.set, lenV, sliceOf, arrayOf, fieldsOf, normOf, norm, firstRegion, look, maskFrom, evBin, evIndexS, evLoad, evVar, evStore, evFieldAddr, nameOf, St.alloc, St.drop, killL, kill, killAll, killObs, killOb, upd, cells?, part, retag, retagL, putIn, refFree, refFreeL, isNew, isNewL, Ty.isAgg, splice, idsL, ids, idsLL, reach, depth, St.dropL, resultsV, resultV, ↓reduceIte, Nat.reduceBEq, Nat.reduceAdd, Nat.reduceSub, Nat.reduceMul, Nat.reduceEqDiff, Nat.reduceLeDiff, Nat.reduceLT, effOf, effMem, effStore, effCall, effVar, effLit, effMake, effApp, Eff.ap, lend, evLit, evMake, evNil, freeze, onto, dropO, elemsV, sized, evCmp, eqT, eqG, minV, evUn, evField, evExtract, evIndexA, evIndexV, evSlice, optInt, fillV, placeOf, thawed, del, isNilSlice, plain, plainL, cellsJ, junkOk, evLook, evMap, evEnter, effEnter, findV, mapOf, keyOk, evFrame, unframe, closed, fixed, sameEs, pickObs, putObs, wit, sameWit, Option.isSome_some, evNilCheck, St.with, setSlots, setObs, wantedD, seqOf, noRange, setAll, Array.size, te, einl, inls, efr]
end Go.AM.E
