/-
The laws: half of each of two amounts.
-/
import Derived.Test.YtkacpekakpbalaaEMixP
import Derived.Test.YtkacpekakpbalaaAmBad
set_option linter.unusedSimpArgs false

namespace Go.AM.E
open Go Go.AM Go.Proofs

def grownObs (r a : Nat) (d : Int) (zs : List Int) : Nat → List (Nat × Ob)
  | 0 => [(r, { es := 2, flat := true, t := true, app := false, elems := [.agg [.int .i64 d, .emp]] })]
  | n + 1 => [(r, { es := 2, flat := false, t := true, app := false, elems := [.agg [.int .i64 d, .own a 0 (n + 1)]] }), (a, { es := 1, flat := true, t := true, app := true, elems := (zs.take (n + 1)).map vI })]
theorem grown_pos (r a : Nat) (d : Int) (zs : List Int) {n : Nat} (h : ¬ n = 0) : grownObs r a d zs n = [(r, { es := 2, flat := false, t := true, app := false, elems := [.agg [.int .i64 d, .own a 0 n]] }), (a, { es := 1, flat := true, t := true, app := true, elems := (zs.take n).map vI })] := by
  cases n with
  | zero => exact absurd rfl h
  | succ n => rfl
theorem take_snoc {zs : List Int} {n : Nat} {z : Int} (h : zs[n]? = some z) : (zs.take n).map vI ++ [.int .i64 z] = (zs.take (n + 1)).map vI := by
  rw [List.take_add_one, h]
  simp [vI]
theorem take_one {zs : List Int} {z : Int} (h : zs[0]? = some z) : (zs.take 1).map vI = [.int .i64 z] := by
  rw [List.take_add_one, h]
  simp [vI]

theorem inf6 : (drawn (Try.f6.body.getD .skip)).map infosOf = [[([], false), ([], false), ([], false), ([], false), ([], false), ([], false), ([], false), ([], false), ([], false), ([], false), ([], false), ([], false), ([], false), ([], false), ([], false), ([], false), ([], false), ([], false), ([], false), ([1], false), ([], true), ([], true), ([], true)]] := by decide +kernel
theorem okD6 : (drawn (Try.f6.body.getD .skip)).all okBad = true := by decide +kernel

set_option maxRecDepth 20000 in
set_option maxHeartbeats 8000000 in
theorem c6 (b : Blend) (x y : Amts) : (orcω E XS).call 6 [encBlend b, encAmts x, encAmts y] = some (.bool true) := by
  refine call_of rfl fn6 rfl ?_
  have hi := inf6
  have ho := okD6
  simp only [Try.f6, Option.getD_some, drawn, List.map_cons, List.map_nil, List.nil_append, List.append_nil, List.cons_append, List.cons.injEq, and_true] at hi
  simp only [Try.f6, Option.getD_some, drawn, List.nil_append, List.append_nil, List.cons_append, List.all_cons, List.all_nil, Bool.and_true, Bool.and_eq_true] at ho
  have k0 := c17
  have k1 := c25 b x
  have k2 := c25 b y
  have q1 : ∀ {e : Int}, ¬ e = 0 → (e != 0) = true := fun h => by simpa using h
  by_cases h1 : checkE b x = 0
  rotate_left
  · have p1 := q1 h1
    generalize checkE b x = e1 at *
    obtain ⟨tot, cs, lo, hb⟩ := b
    obtain ⟨dx, x⟩ := x
    obtain ⟨dy, y⟩ := y
    simp only [encBlend, encAmts] at k1 k2 ⊢
    simp (maxSteps := 1000000) (implicitDefEqProofs := false) only [Try.ntmps6, Try.results6, efc6, fc6, k0, k1, p1, ss, List.replicate, evOp, evPlain, evVal, evMem, St.eval, St.put, St.get, constV, List.set, lenV, sliceOf, arrayOf, fieldsOf, normOf, norm, firstRegion, look, maskFrom, evBin, evIndexS, evLoad, evVar, evStore, evFieldAddr, nameOf, St.alloc, St.drop, killL, kill, killAll, killObs, killOb, upd, cells?, part, retag, retagL, putIn, refFree, refFreeL, isNew, isNewL, Ty.isAgg, splice, idsL, ids, idsLL, reach, depth, St.dropL, resultsV, resultV, ↓reduceIte, Nat.reduceBEq, Nat.reduceAdd, Nat.reduceSub, Nat.reduceMul, Nat.reduceEqDiff, Nat.reduceLeDiff, Nat.reduceLT, effOf, effMem, effStore, effCall, effVar, effLit, effMake, effApp, Eff.ap, lend, evLit, evMake, evNil, freeze, onto, dropO, elemsV, sized, evCmp, eqT, eqG, minV, evUn, evField, evExtract, evIndexA, evIndexV, evSlice, optInt, fillV, placeOf, thawed, del, isNilSlice, plain, plainL, cellsJ, junkOk, evLook, evMap, evEnter, effEnter, findV, mapOf, keyOk, evFrame, unframe, closed, fixed, sameEs, pickObs, putObs, wit, sameWit, Option.isSome_some, evNilCheck, St.with, setSlots, setObs, wantedD, seqOf, noRange, setAll, Array.size, te, einl, inls, efr]
  by_cases h2 : checkE b y = 0
  rotate_left
  · have p1 := q1 h2
    rw [h1] at k1
    generalize checkE b y = e1 at *
    obtain ⟨tot, cs, lo, hb⟩ := b
    obtain ⟨dx, x⟩ := x
    obtain ⟨dy, y⟩ := y
    simp only [encBlend, encAmts] at k1 k2 ⊢
    simp (maxSteps := 1000000) (implicitDefEqProofs := false) only [Try.ntmps6, Try.results6, efc6, fc6, k0, k1, k2, p1, bne_self_eq_false, ss, List.replicate, evOp, evPlain, evVal, evMem, St.eval, St.put, St.get, constV, List.set, lenV, sliceOf, arrayOf, fieldsOf, normOf, norm, firstRegion, look, maskFrom, evBin, evIndexS, evLoad, evVar, evStore, evFieldAddr, nameOf, St.alloc, St.drop, killL, kill, killAll, killObs, killOb, upd, cells?, part, retag, retagL, putIn, refFree, refFreeL, isNew, isNewL, Ty.isAgg, splice, idsL, ids, idsLL, reach, depth, St.dropL, resultsV, resultV, ↓reduceIte, Nat.reduceBEq, Nat.reduceAdd, Nat.reduceSub, Nat.reduceMul, Nat.reduceEqDiff, Nat.reduceLeDiff, Nat.reduceLT, effOf, effMem, effStore, effCall, effVar, effLit, effMake, effApp, Eff.ap, lend, evLit, evMake, evNil, freeze, onto, dropO, elemsV, sized, evCmp, eqT, eqG, minV, evUn, evField, evExtract, evIndexA, evIndexV, evSlice, optInt, fillV, placeOf, thawed, del, isNilSlice, plain, plainL, cellsJ, junkOk, evLook, evMap, evEnter, effEnter, findV, mapOf, keyOk, evFrame, unframe, closed, fixed, sameEs, pickObs, putObs, wit, sameWit, Option.isSome_some, evNilCheck, St.with, setSlots, setObs, wantedD, seqOf, noRange, setAll, Array.size, te, einl, inls, efr]
  obtain ⟨v, rx, bx⟩ := checkE_zero h1
  obtain ⟨_, ry, by'⟩ := checkE_zero h2
  have hcs := v.2.1
  obtain ⟨b1, lx, nx⟩ := rx
  obtain ⟨b2, ly, ny⟩ := ry
  by_cases h3 : 1000 < x.den
  · rw [h1] at k1
    rw [h2] at k2
    clear h1 h2 bx by' v
    obtain ⟨tot, cs, lo, hb⟩ := b
    obtain ⟨dx, x⟩ := x
    obtain ⟨dy, y⟩ := y
    simp only [encBlend, encAmts] at k1 k2 ⊢
    dsimp only at h3
    simp (maxSteps := 1000000) (implicitDefEqProofs := false) only [Try.ntmps6, Try.results6, efc6, fc6, k0, k1, k2, h3, bne_self_eq_false, ss, List.replicate, evOp, evPlain, evVal, evMem, St.eval, St.put, St.get, constV, List.set, lenV, sliceOf, arrayOf, fieldsOf, normOf, norm, firstRegion, look, maskFrom, evBin, evIndexS, evLoad, evVar, evStore, evFieldAddr, nameOf, St.alloc, St.drop, killL, kill, killAll, killObs, killOb, upd, cells?, part, retag, retagL, putIn, refFree, refFreeL, isNew, isNewL, Ty.isAgg, splice, idsL, ids, idsLL, reach, depth, St.dropL, resultsV, resultV, ↓reduceIte, Nat.reduceBEq, Nat.reduceAdd, Nat.reduceSub, Nat.reduceMul, Nat.reduceEqDiff, Nat.reduceLeDiff, Nat.reduceLT, effOf, effMem, effStore, effCall, effVar, effLit, effMake, effApp, Eff.ap, lend, evLit, evMake, evNil, freeze, onto, dropO, elemsV, sized, evCmp, eqT, eqG, minV, evUn, evField, evExtract, evIndexA, evIndexV, evSlice, optInt, fillV, placeOf, thawed, del, isNilSlice, plain, plainL, cellsJ, junkOk, evLook, evMap, evEnter, effEnter, findV, mapOf, keyOk, evFrame, unframe, closed, fixed, sameEs, pickObs, putObs, wit, sameWit, Option.isSome_some, evNilCheck, St.with, setSlots, setObs, wantedD, seqOf, noRange, setAll, Array.size, te, einl, inls, efr]
  by_cases h4 : 500 < y.den
  · rw [h1] at k1
    rw [h2] at k2
    clear h1 h2 bx by' v
    obtain ⟨tot, cs, lo, hb⟩ := b
    obtain ⟨dx, x⟩ := x
    obtain ⟨dy, y⟩ := y
    simp only [encBlend, encAmts] at k1 k2 ⊢
    dsimp only at h3 h4
    simp (maxSteps := 1000000) (implicitDefEqProofs := false) only [Try.ntmps6, Try.results6, efc6, fc6, k0, k1, k2, h3, h4, bne_self_eq_false, ss, List.replicate, evOp, evPlain, evVal, evMem, St.eval, St.put, St.get, constV, List.set, lenV, sliceOf, arrayOf, fieldsOf, normOf, norm, firstRegion, look, maskFrom, evBin, evIndexS, evLoad, evVar, evStore, evFieldAddr, nameOf, St.alloc, St.drop, killL, kill, killAll, killObs, killOb, upd, cells?, part, retag, retagL, putIn, refFree, refFreeL, isNew, isNewL, Ty.isAgg, splice, idsL, ids, idsLL, reach, depth, St.dropL, resultsV, resultV, ↓reduceIte, Nat.reduceBEq, Nat.reduceAdd, Nat.reduceSub, Nat.reduceMul, Nat.reduceEqDiff, Nat.reduceLeDiff, Nat.reduceLT, effOf, effMem, effStore, effCall, effVar, effLit, effMake, effApp, Eff.ap, lend, evLit, evMake, evNil, freeze, onto, dropO, elemsV, sized, evCmp, eqT, eqG, minV, evUn, evField, evExtract, evIndexA, evIndexV, evSlice, optInt, fillV, placeOf, thawed, del, isNilSlice, plain, plainL, cellsJ, junkOk, evLook, evMap, evEnter, effEnter, findV, mapOf, keyOk, evFrame, unframe, closed, fixed, sameEs, pickObs, putObs, wit, sameWit, Option.isSome_some, evNilCheck, St.with, setSlots, setObs, wantedD, seqOf, noRange, setAll, Array.size, te, einl, inls, efr]
  have hl : x.x.length = y.x.length := by omega
  have hmix := mix_ok h1 h2 (by omega) (by omega)
  have k3 := c25 b ⟨2 * x.den * y.den, mixX x.x y.x y.den x.den⟩
  have hz := mix_len (p := y.den) (q := x.den) hl
  have hg := fun k m n => mix_get (x := x.x) (y := y.x) (p := y.den) (q := x.den) (k := k) (m := m) (n := n)
  rw [h1] at k1
  rw [h2] at k2
  clear h1 h2 bx by' v
  have hle := cast_eq hl
  generalize checkE b ⟨2 * x.den * y.den, mixX x.x y.x y.den x.den⟩ = ez at *
  generalize mixX x.x y.x y.den x.den = zs at *
  obtain ⟨tot, cs, lo, hb⟩ := b
  obtain ⟨dx, x⟩ := x
  obtain ⟨dy, y⟩ := y
  simp only [encBlend, encAmts] at k1 k2 k3 ⊢
  dsimp only at *
  have hdd := mul_in (a := 2 * dx) (b := dy) (A := 2000) (B := 500) (by omega) (by omega)
  have w0 : IntKind.i64.wrap (2 * dx) = 2 * dx := wrap_in (by omega)
  have w1 : IntKind.i64.wrap (2 * dx * dy) = 2 * dx * dy := wrap_in (by omega)
  simp (maxSteps := 1000000) (implicitDefEqProofs := false) only [Try.ntmps6, Try.results6, efc6, fc6, k0, k1, k2, h3, h4, hle, w0, w1, bne_self_eq_false, List.length_map, ss, List.replicate, evOp, evPlain, evVal, evMem, St.eval, St.put, St.get, constV, List.set, lenV, sliceOf, arrayOf, fieldsOf, normOf, norm, firstRegion, look, maskFrom, evBin, evIndexS, evLoad, evVar, evStore, evFieldAddr, nameOf, St.alloc, St.drop, killL, kill, killAll, killObs, killOb, upd, cells?, part, retag, retagL, putIn, refFree, refFreeL, isNew, isNewL, Ty.isAgg, splice, idsL, ids, idsLL, reach, depth, St.dropL, resultsV, resultV, ↓reduceIte, Nat.reduceBEq, Nat.reduceAdd, Nat.reduceSub, Nat.reduceMul, Nat.reduceEqDiff, Nat.reduceLeDiff, Nat.reduceLT, effOf, effMem, effStore, effCall, effVar, effLit, effMake, effApp, Eff.ap, lend, evLit, evMake, evNil, freeze, onto, dropO, elemsV, sized, evCmp, eqT, eqG, minV, evUn, evField, evExtract, evIndexA, evIndexV, evSlice, optInt, fillV, placeOf, thawed, del, isNilSlice, plain, plainL, cellsJ, junkOk, evLook, evMap, evEnter, effEnter, findV, mapOf, keyOk, evFrame, unframe, closed, fixed, sameEs, pickObs, putObs, wit, sameWit, Option.isSome_some, evNilCheck, St.with, setSlots, setObs, wantedD, seqOf, noRange, setAll, Array.size, te, einl, inls, efr]
  generalize hr : loopAt _ _ _ _ _ _ = r; revert r
  refine loop_nat x.length (fun i _ => [(8, .int .i64 (i : Nat))]) (fun i _ => grownObs 7 74 (2 * dx * dy) zs i) (fun _ (_ : Unit) => True) () (by omega) (by simp (maxSteps := 1000000) (implicitDefEqProofs := false) only [grownObs, Int.natCast_zero, ss, List.replicate, evOp, evPlain, evVal, evMem, St.eval, St.put, St.get, constV, List.set, lenV, sliceOf, arrayOf, fieldsOf, normOf, norm, firstRegion, look, maskFrom, evBin, evIndexS, evLoad, evVar, evStore, evFieldAddr, nameOf, St.alloc, St.drop, killL, kill, killAll, killObs, killOb, upd, cells?, part, retag, retagL, putIn, refFree, refFreeL, isNew, isNewL, Ty.isAgg, splice, idsL, ids, idsLL, reach, depth, St.dropL, resultsV, resultV, ↓reduceIte, Nat.reduceBEq, Nat.reduceAdd, Nat.reduceSub, Nat.reduceMul, Nat.reduceEqDiff, Nat.reduceLeDiff, Nat.reduceLT, effOf, effMem, effStore, effCall, effVar, effLit, effMake, effApp, Eff.ap, lend, evLit, evMake, evNil, freeze, onto, dropO, elemsV, sized, evCmp, eqT, eqG, minV, evUn, evField, evExtract, evIndexA, evIndexV, evSlice, optInt, fillV, placeOf, thawed, del, isNilSlice, plain, plainL, cellsJ, junkOk, evLook, evMap, evEnter, effEnter, findV, mapOf, keyOk, evFrame, unframe, closed, fixed, sameEs, pickObs, putObs, wit, sameWit, Option.isSome_some, evNilCheck, St.with, setSlots, setObs, wantedD, seqOf, noRange, setAll, Array.size, te, einl, inls, efr]) trivial (fun _ _ => ?_) (fun i _ _ a1 a2 a3 => ?_)
  rotate_left
  · have hm : x[i]? = some x[i] := List.getElem?_eq_getElem a1
    have hn : y[i]? = some y[i] := List.getElem?_eq_getElem (by omega)
    have hzi := hg i _ _ hm hn
    have a4 : (i : Int) < y.length := by omega
    have c1 := mul_in (nx x[i] (List.getElem_mem _)) (show 0 ≤ dy ∧ dy ≤ 500 by omega)
    have c2 := mul_in (ny y[i] (List.getElem_mem _)) (show 0 ≤ dx ∧ dx ≤ 1000 by omega)
    have w2 : IntKind.i64.wrap (x[i] * dy) = x[i] * dy := wrap_in (by omega)
    have w3 : IntKind.i64.wrap (y[i] * dx) = y[i] * dx := wrap_in (by omega)
    have w4 : IntKind.i64.wrap (x[i] * dy + y[i] * dx) = x[i] * dy + y[i] * dx := wrap_in (by omega)
    clear c1 c2
    generalize x[i] = m at *
    generalize y[i] = n at *
    by_cases hi0 : i = 0
    · subst hi0
      have q2 : (0 : Int) < x.length := by omega
      have q3 : (0 : Int) < y.length := by omega
      have q4 : IntKind.i64.wrap (0 + 1) = 1 := by decide
      have q5 : roomy 1 8 = true := by decide
      have e1 := take_one hzi
      simp (maxSteps := 1000000) (implicitDefEqProofs := false) only [q2, q3, q4, q5, hm, hn, w2, w3, w4, vI, grownObs, e1, regT ho hi, evBT_nil, evBT_cons, effT_true, effT_false, effT2_some, effT2_none, calmT, free, Eff.writes, supp, isBar, Option.toList_some, Option.toList_none, Int.le_refl, Int.natCast_zero, Int.natCast_one, Int.natCast_nonneg, Int.toNat_zero, List.getElem?_map, List.length_map, List.nil_append, if_true, ss, List.replicate, evOp, evPlain, evVal, evMem, St.eval, St.put, St.get, constV, List.set, lenV, sliceOf, arrayOf, fieldsOf, normOf, norm, firstRegion, look, maskFrom, evBin, evIndexS, evLoad, evVar, evStore, evFieldAddr, nameOf, St.alloc, St.drop, killL, kill, killAll, killObs, killOb, upd, cells?, part, retag, retagL, putIn, refFree, refFreeL, isNew, isNewL, Ty.isAgg, splice, idsL, ids, idsLL, reach, depth, St.dropL, resultsV, resultV, ↓reduceIte, Nat.reduceBEq, Nat.reduceAdd, Nat.reduceSub, Nat.reduceMul, Nat.reduceEqDiff, Nat.reduceLeDiff, Nat.reduceLT, effOf, effMem, effStore, effCall, effVar, effLit, effMake, effApp, Eff.ap, lend, evLit, evMake, evNil, freeze, onto, dropO, elemsV, sized, evCmp, eqT, eqG, minV, evUn, evField, evExtract, evIndexA, evIndexV, evSlice, optInt, fillV, placeOf, thawed, del, isNilSlice, plain, plainL, cellsJ, junkOk, evLook, evMap, evEnter, effEnter, findV, mapOf, keyOk, evFrame, unframe, closed, fixed, sameEs, pickObs, putObs, wit, sameWit, Option.isSome_some, evNilCheck, St.with, setSlots, setObs, wantedD, seqOf, noRange, setAll, Array.size, te, einl, inls, efr]
      (first | exact ⟨(), trivial⟩ | refine ⟨(), ?_, trivial⟩ | skip)
    · rw [grown_pos _ _ _ _ hi0, grown_pos _ _ _ _ (show ¬ i + 1 = 0 by omega)]
      have e1 := take_snoc hzi
      have hroom : roomy (i + 1) 8 = true := by simp [roomy]; omega
      have hbig : i + 1 ≤ 4294967296 := by omega
      have tl : (zs.take i).length = i := by simp; omega
      have z2 : sized 1 ((zs.take i).map vI) = true := sized_vI _
      simp (maxSteps := 1000000) (implicitDefEqProofs := false) only [a1, a2, a3, a4, hm, hn, w2, w3, w4, vI, e1, hroom, hbig, tl, z2, regT ho hi, evBT_nil, evBT_cons, effT_true, effT_false, effT2_some, effT2_none, calmT, free, Eff.writes, supp, isBar, Option.toList_some, Option.toList_none, Int.natCast_nonneg, Int.toNat_natCast, List.getElem?_map, List.length_map, ss, List.replicate, evOp, evPlain, evVal, evMem, St.eval, St.put, St.get, constV, List.set, lenV, sliceOf, arrayOf, fieldsOf, normOf, norm, firstRegion, look, maskFrom, evBin, evIndexS, evLoad, evVar, evStore, evFieldAddr, nameOf, St.alloc, St.drop, killL, kill, killAll, killObs, killOb, upd, cells?, part, retag, retagL, putIn, refFree, refFreeL, isNew, isNewL, Ty.isAgg, splice, idsL, ids, idsLL, reach, depth, St.dropL, resultsV, resultV, ↓reduceIte, Nat.reduceBEq, Nat.reduceAdd, Nat.reduceSub, Nat.reduceMul, Nat.reduceEqDiff, Nat.reduceLeDiff, Nat.reduceLT, effOf, effMem, effStore, effCall, effVar, effLit, effMake, effApp, Eff.ap, lend, evLit, evMake, evNil, freeze, onto, dropO, elemsV, sized, evCmp, eqT, eqG, minV, evUn, evField, evExtract, evIndexA, evIndexV, evSlice, optInt, fillV, placeOf, thawed, del, isNilSlice, plain, plainL, cellsJ, junkOk, evLook, evMap, evEnter, effEnter, findV, mapOf, keyOk, evFrame, unframe, closed, fixed, sameEs, pickObs, putObs, wit, sameWit, Option.isSome_some, evNilCheck, St.with, setSlots, setObs, wantedD, seqOf, noRange, setAll, Array.size, te, einl, inls, efr]
      (first | exact ⟨(), trivial⟩ | refine ⟨(), ?_, trivial⟩ | skip)
  have hx0 : ¬ x.length = 0 := by omega
  have tz : zs.take x.length = zs := List.take_of_length_le (by omega)
  have sz := sized_vI zs
  have tz2 : (zs.map vI).take x.length = zs.map vI := List.take_of_length_le (by simp; omega)
  have lz : (x.length : Int) = zs.length := by omega
  have hbig : x.length ≤ 4294967296 := by omega
  rw [grown_pos _ _ _ _ hx0, tz]
  rw [← hz] at hbig ⊢
  simp (maxSteps := 1000000) (implicitDefEqProofs := false) only [Int.lt_irrefl, hz, List.length_map, ss, List.replicate, evOp, evPlain, evVal, evMem, St.eval, St.put, St.get, constV, List.set, lenV, sliceOf, arrayOf, fieldsOf, normOf, norm, firstRegion, look, maskFrom, evBin, evIndexS, evLoad, evVar, evStore, evFieldAddr, nameOf, St.alloc, St.drop, killL, kill, killAll, killObs, killOb, upd, cells?, part, retag, retagL, putIn, refFree, refFreeL, isNew, isNewL, Ty.isAgg, splice, idsL, ids, idsLL, reach, depth, St.dropL, resultsV, resultV, ↓reduceIte, Nat.reduceBEq, Nat.reduceAdd, Nat.reduceSub, Nat.reduceMul, Nat.reduceEqDiff, Nat.reduceLeDiff, Nat.reduceLT, effOf, effMem, effStore, effCall, effVar, effLit, effMake, effApp, Eff.ap, lend, evLit, evMake, evNil, freeze, onto, dropO, elemsV, sized, evCmp, eqT, eqG, minV, evUn, evField, evExtract, evIndexA, evIndexV, evSlice, optInt, fillV, placeOf, thawed, del, isNilSlice, plain, plainL, cellsJ, junkOk, evLook, evMap, evEnter, effEnter, findV, mapOf, keyOk, evFrame, unframe, closed, fixed, sameEs, pickObs, putObs, wit, sameWit, Option.isSome_some, evNilCheck, St.with, setSlots, setObs, wantedD, seqOf, noRange, setAll, Array.size, te, einl, inls, efr]
  generalize hr : loopAt _ _ _ _ _ _ = r; revert r
  refine loop_list zs (fun pre _ => [(9, .int .i64 pre.length)]) (fun _ _ => []) (fun pre (_ : Unit) => ∀ n ∈ pre, n ≤ 1073741824) () (by omega) (by simp (maxSteps := 1000000) (implicitDefEqProofs := false) only [ss, List.replicate, evOp, evPlain, evVal, evMem, St.eval, St.put, St.get, constV, List.set, lenV, sliceOf, arrayOf, fieldsOf, normOf, norm, firstRegion, look, maskFrom, evBin, evIndexS, evLoad, evVar, evStore, evFieldAddr, nameOf, St.alloc, St.drop, killL, kill, killAll, killObs, killOb, upd, cells?, part, retag, retagL, putIn, refFree, refFreeL, isNew, isNewL, Ty.isAgg, splice, idsL, ids, idsLL, reach, depth, St.dropL, resultsV, resultV, ↓reduceIte, Nat.reduceBEq, Nat.reduceAdd, Nat.reduceSub, Nat.reduceMul, Nat.reduceEqDiff, Nat.reduceLeDiff, Nat.reduceLT, effOf, effMem, effStore, effCall, effVar, effLit, effMake, effApp, Eff.ap, lend, evLit, evMake, evNil, freeze, onto, dropO, elemsV, sized, evCmp, eqT, eqG, minV, evUn, evField, evExtract, evIndexA, evIndexV, evSlice, optInt, fillV, placeOf, thawed, del, isNilSlice, plain, plainL, cellsJ, junkOk, evLook, evMap, evEnter, effEnter, findV, mapOf, keyOk, evFrame, unframe, closed, fixed, sameEs, pickObs, putObs, wit, sameWit, Option.isSome_some, evNilCheck, St.with, setSlots, setObs, wantedD, seqOf, noRange, setAll, Array.size, te, einl, inls, efr]) (fun _ h => by cases h) (fun _ hall => ?_) (fun pre z post _ hp hall g1 g2 g3 g4 => ?_)
  · have e0 := hmix hall
    subst e0
    simp (maxSteps := 1000000) (implicitDefEqProofs := false) only [Int.lt_irrefl, k0, k3, hz, tz2, beq_self_eq_true, List.length_map, Try.ntmps6, Try.results6, efc6, fc6, ss, List.replicate, evOp, evPlain, evVal, evMem, St.eval, St.put, St.get, constV, List.set, lenV, sliceOf, arrayOf, fieldsOf, normOf, norm, firstRegion, look, maskFrom, evBin, evIndexS, evLoad, evVar, evStore, evFieldAddr, nameOf, St.alloc, St.drop, killL, kill, killAll, killObs, killOb, upd, cells?, part, retag, retagL, putIn, refFree, refFreeL, isNew, isNewL, Ty.isAgg, splice, idsL, ids, idsLL, reach, depth, St.dropL, resultsV, resultV, ↓reduceIte, Nat.reduceBEq, Nat.reduceAdd, Nat.reduceSub, Nat.reduceMul, Nat.reduceEqDiff, Nat.reduceLeDiff, Nat.reduceLT, effOf, effMem, effStore, effCall, effVar, effLit, effMake, effApp, Eff.ap, lend, evLit, evMake, evNil, freeze, onto, dropO, elemsV, sized, evCmp, eqT, eqG, minV, evUn, evField, evExtract, evIndexA, evIndexV, evSlice, optInt, fillV, placeOf, thawed, del, isNilSlice, plain, plainL, cellsJ, junkOk, evLook, evMap, evEnter, effEnter, findV, mapOf, keyOk, evFrame, unframe, closed, fixed, sameEs, pickObs, putObs, wit, sameWit, Option.isSome_some, evNilCheck, St.with, setSlots, setObs, wantedD, seqOf, noRange, setAll, Array.size, te, einl, inls, efr]
  · rw [hz] at g1 g2
    by_cases hlt : 1073741824 < z
    · simp (maxSteps := 1000000) (implicitDefEqProofs := false) only [g1, g2, g3, g4, vI, hlt, k0, hz, tz2, Int.natCast_nonneg, Int.toNat_natCast, List.getElem?_map, List.length_map, Try.ntmps6, Try.results6, efc6, fc6, ss, List.replicate, evOp, evPlain, evVal, evMem, St.eval, St.put, St.get, constV, List.set, lenV, sliceOf, arrayOf, fieldsOf, normOf, norm, firstRegion, look, maskFrom, evBin, evIndexS, evLoad, evVar, evStore, evFieldAddr, nameOf, St.alloc, St.drop, killL, kill, killAll, killObs, killOb, upd, cells?, part, retag, retagL, putIn, refFree, refFreeL, isNew, isNewL, Ty.isAgg, splice, idsL, ids, idsLL, reach, depth, St.dropL, resultsV, resultV, ↓reduceIte, Nat.reduceBEq, Nat.reduceAdd, Nat.reduceSub, Nat.reduceMul, Nat.reduceEqDiff, Nat.reduceLeDiff, Nat.reduceLT, effOf, effMem, effStore, effCall, effVar, effLit, effMake, effApp, Eff.ap, lend, evLit, evMake, evNil, freeze, onto, dropO, elemsV, sized, evCmp, eqT, eqG, minV, evUn, evField, evExtract, evIndexA, evIndexV, evSlice, optInt, fillV, placeOf, thawed, del, isNilSlice, plain, plainL, cellsJ, junkOk, evLook, evMap, evEnter, effEnter, findV, mapOf, keyOk, evFrame, unframe, closed, fixed, sameEs, pickObs, putObs, wit, sameWit, Option.isSome_some, evNilCheck, St.with, setSlots, setObs, wantedD, seqOf, noRange, setAll, Array.size, te, einl, inls, efr]
    · simp (maxSteps := 1000000) (implicitDefEqProofs := false) only [g1, g2, g3, g4, vI, hlt, k0, hz, tz2, Int.natCast_nonneg, Int.toNat_natCast, List.getElem?_map, List.length_map, ss, List.replicate, evOp, evPlain, evVal, evMem, St.eval, St.put, St.get, constV, List.set, lenV, sliceOf, arrayOf, fieldsOf, normOf, norm, firstRegion, look, maskFrom, evBin, evIndexS, evLoad, evVar, evStore, evFieldAddr, nameOf, St.alloc, St.drop, killL, kill, killAll, killObs, killOb, upd, cells?, part, retag, retagL, putIn, refFree, refFreeL, isNew, isNewL, Ty.isAgg, splice, idsL, ids, idsLL, reach, depth, St.dropL, resultsV, resultV, ↓reduceIte, Nat.reduceBEq, Nat.reduceAdd, Nat.reduceSub, Nat.reduceMul, Nat.reduceEqDiff, Nat.reduceLeDiff, Nat.reduceLT, effOf, effMem, effStore, effCall, effVar, effLit, effMake, effApp, Eff.ap, lend, evLit, evMake, evNil, freeze, onto, dropO, elemsV, sized, evCmp, eqT, eqG, minV, evUn, evField, evExtract, evIndexA, evIndexV, evSlice, optInt, fillV, placeOf, thawed, del, isNilSlice, plain, plainL, cellsJ, junkOk, evLook, evMap, evEnter, effEnter, findV, mapOf, keyOk, evFrame, unframe, closed, fixed, sameEs, pickObs, putObs, wit, sameWit, Option.isSome_some, evNilCheck, St.with, setSlots, setObs, wantedD, seqOf, noRange, setAll, Array.size, te, einl, inls, efr]
      refine ⟨(), fun n hn => ?_⟩
      rcases List.mem_append.1 hn with hn | hn
      · exact hall n hn
      · rw [List.mem_singleton.1 hn]; omega
end Go.AM.E
