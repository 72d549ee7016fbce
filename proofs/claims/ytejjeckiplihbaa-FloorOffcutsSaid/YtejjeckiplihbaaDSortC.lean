/-
slices.SortFunc of cuts, by their places (at most 12 of them).
-/
import Derived.Test.YtejjeckiplihbaaDOffP
set_option linter.unusedSimpArgs false
set_option maxRecDepth 20000

namespace Go.AM.D
open Go Go.AM Go.Proofs

def cmpI (a b : Int) : Int := if a < b then -1 else if b < a then 1 else 0
theorem c99 (a b : Int) : (orcω E X0).call 99 [.int .i64 a, .int .i64 b] = some (.int .i64 (cmpI a b)) := by
  refine call_of rfl fn99 rfl ?_
  have k1 := c130 a
  have k2 := c130 b
  unfold cmpI
  by_cases h1 : a < b
  · simp (maxSteps := 1000000) (implicitDefEqProofs := false) only [Try.ntmps99, Try.results99, efc99, k1, k2, h1, if_true, ss, sd, evOp, evPlain, evVal, evMem, St.get, sliceOf, arrayOf, fieldsOf, normOf, norm, look, evVar, evFieldAddr, nameOf, St.alloc, St.drop, killOb, part, splice, depth, resultsV, ↓reduceIte, Nat.reduceBEq, Nat.reduceAdd, Nat.reduceSub, Nat.reduceMul, Nat.reduceEqDiff, Nat.reduceLeDiff, Nat.reduceLT, effOf, effMem, effVar, effLit, effMake, effApp, lend, evLit, evNil, freeze, evField, evIndexT, orNil, evSlice, placeOf, evMap, mapOf, keyOk, evFrame, closed, fixed, sameEs, wit, Option.isSome_some, St.with, wantedD, Array.size, te, einl, inls, efr]
  · by_cases h2 : b < a
    · simp (maxSteps := 1000000) (implicitDefEqProofs := false) only [Try.ntmps99, Try.results99, efc99, k1, k2, h1, h2, if_true, if_false, ss, sd, evOp, evPlain, evVal, evMem, St.get, sliceOf, arrayOf, fieldsOf, normOf, norm, look, evVar, evFieldAddr, nameOf, St.alloc, St.drop, killOb, part, splice, depth, resultsV, ↓reduceIte, Nat.reduceBEq, Nat.reduceAdd, Nat.reduceSub, Nat.reduceMul, Nat.reduceEqDiff, Nat.reduceLeDiff, Nat.reduceLT, effOf, effMem, effVar, effLit, effMake, effApp, lend, evLit, evNil, freeze, evField, evIndexT, orNil, evSlice, placeOf, evMap, mapOf, keyOk, evFrame, closed, fixed, sameEs, wit, Option.isSome_some, St.with, wantedD, Array.size, te, einl, inls, efr]
    · simp (maxSteps := 1000000) (implicitDefEqProofs := false) only [Try.ntmps99, Try.results99, efc99, k1, k2, h1, h2, if_false, ss, sd, evOp, evPlain, evVal, evMem, St.get, sliceOf, arrayOf, fieldsOf, normOf, norm, look, evVar, evFieldAddr, nameOf, St.alloc, St.drop, killOb, part, splice, depth, resultsV, ↓reduceIte, Nat.reduceBEq, Nat.reduceAdd, Nat.reduceSub, Nat.reduceMul, Nat.reduceEqDiff, Nat.reduceLeDiff, Nat.reduceLT, effOf, effMem, effVar, effLit, effMake, effApp, lend, evLit, evNil, freeze, evField, evIndexT, orNil, evSlice, placeOf, evMap, mapOf, keyOk, evFrame, closed, fixed, sameEs, wit, Option.isSome_some, St.with, wantedD, Array.size, te, einl, inls, efr]
def cmpC (x y : Cut) : Int := cmpI x.a y.a
theorem c105 (x y : Cut) : (orcω E X0).call 105 [encCut x, encCut y] = some (.int .i64 (cmpC x y)) := by
  refine call_of rfl fn105 rfl ?_
  have k1 := c99 x.a y.a
  unfold encCut cmpC
  simp (maxSteps := 1000000) (implicitDefEqProofs := false) only [Try.ntmps105, Try.results105, efc105, k1, ss, sd, evOp, evPlain, evVal, evMem, St.get, sliceOf, arrayOf, fieldsOf, normOf, norm, look, evVar, evFieldAddr, nameOf, St.alloc, St.drop, killOb, part, splice, depth, resultsV, ↓reduceIte, Nat.reduceBEq, Nat.reduceAdd, Nat.reduceSub, Nat.reduceMul, Nat.reduceEqDiff, Nat.reduceLeDiff, Nat.reduceLT, effOf, effMem, effVar, effLit, effMake, effApp, lend, evLit, evNil, freeze, evField, evIndexT, orNil, evSlice, placeOf, evMap, mapOf, keyOk, evFrame, closed, fixed, sameEs, wit, Option.isSome_some, St.with, wantedD, Array.size, te, einl, inls, efr]
theorem lt_cmp105 {x y : Cut} : ltA x y = true ↔ cmpC x y < 0 := by
  rw [ltA_iff]
  unfold cmpC cmpI
  split
  · omega
  · split <;> omega

theorem okT163 : okCode (Try.f163.body.getD .skip) = true := by decide +kernel
set_option maxRecDepth 20000 in
set_option maxHeartbeats 8000000 in
theorem c163 (b id : Nat) (outer : List (List V)) (objs : List (Nat × Ob)) (l : List Cut) (hn : l.length ≤ 1000000) (t app : Bool) (hl : look objs id = some { es := 3, flat := true, t := t, app := app, elems := (l).map encCut }) (hu : upd objs id { es := 3, flat := true, t := t, app := app, elems := (l).map encCut } = objs) :
    ∃ sl, (orcω E X0).inl b 163 [.own id 0 l.length, .int .i64 0, .int .i64 l.length, .clo 105 [] []] { slots := [], outer := outer, objs := objs } = some (.tup [], { slots := sl, outer := outer, objs := upd objs id { es := 3, flat := true, t := t, app := app, elems := (isort ltA l).map encCut } }) := by
  refine (fun h : ∃ sl : List V, _ = some (V.tup [], ({ slots := sl, outer := outer, objs := upd objs id { es := 3, flat := true, t := t, app := app, elems := (isort ltA l).map encCut } } : St)) => h.elim fun sl h => ⟨sl, inl_of rfl fn163 rfl h⟩) ?_
  have hok := okT163
  simp only [Try.f163, Option.getD_some, okCode, Bool.and_eq_true, Bool.and_true, Bool.true_and] at hok
  obtain ⟨hk1, hk2⟩ := hok
  have q1 : IntKind.i64.wrap (0 + 1) = 1 := by decide
  simp (maxSteps := 1000000) (implicitDefEqProofs := false) only [Try.ntmps163, Try.results163, efc163, fc163, q1, ss, sd, evOp, evPlain, evVal, evMem, St.get, sliceOf, arrayOf, fieldsOf, normOf, norm, look, evVar, evFieldAddr, nameOf, St.alloc, St.drop, killOb, part, splice, depth, resultsV, ↓reduceIte, Nat.reduceBEq, Nat.reduceAdd, Nat.reduceSub, Nat.reduceMul, Nat.reduceEqDiff, Nat.reduceLeDiff, Nat.reduceLT, effOf, effMem, effVar, effLit, effMake, effApp, lend, evLit, evNil, freeze, evField, evIndexT, orNil, evSlice, placeOf, evMap, mapOf, keyOk, evFrame, closed, fixed, sameEs, wit, Option.isSome_some, St.with, wantedD, Array.size, te, einl, inls, efr]
  generalize hr : loopAt _ _ _ _ _ _ = r; revert r
  refine loop_inv (ι := { k : Nat // k = 0 ∨ k < l.length }) (fun k => [(8, .int .i64 ((k.1 + 1 : Nat) : Int))]) (fun k => [(id, { es := 3, flat := true, t := t, app := app, elems := (isortTo ltA l k.1).map encCut })]) (fun k => l.length - k.1) ⟨0, .inl rfl⟩ (by simp (maxSteps := 1000000) (implicitDefEqProofs := false) only [isortTo, hu, Int.natCast_zero, Int.natCast_one, Nat.zero_add, ss, sd, evOp, evPlain, evVal, evMem, St.get, sliceOf, arrayOf, fieldsOf, normOf, norm, look, evVar, evFieldAddr, nameOf, St.alloc, St.drop, killOb, part, splice, depth, resultsV, ↓reduceIte, Nat.reduceBEq, Nat.reduceAdd, Nat.reduceSub, Nat.reduceMul, Nat.reduceEqDiff, Nat.reduceLeDiff, Nat.reduceLT, effOf, effMem, effVar, effLit, effMake, effApp, lend, evLit, evNil, freeze, evField, evIndexT, orNil, evSlice, placeOf, evMap, mapOf, keyOk, evFrame, closed, fixed, sameEs, wit, Option.isSome_some, St.with, wantedD, Array.size, te, einl, inls, efr]) ?_
  rintro ⟨k, hk⟩
  dsimp only
  by_cases hlt : ((k + 1 : Nat) : Int) < l.length
  rotate_left
  · have e1 : isort ltA l = isortTo ltA l k := by
      unfold isort
      congr 1
      omega
    rw [e1]
    simp (maxSteps := 1000000) (implicitDefEqProofs := false) only [hlt, Try.ntmps163, Try.results163, efc163, fc163, ss, sd, evOp, evPlain, evVal, evMem, St.get, sliceOf, arrayOf, fieldsOf, normOf, norm, look, evVar, evFieldAddr, nameOf, St.alloc, St.drop, killOb, part, splice, depth, resultsV, ↓reduceIte, Nat.reduceBEq, Nat.reduceAdd, Nat.reduceSub, Nat.reduceMul, Nat.reduceEqDiff, Nat.reduceLeDiff, Nat.reduceLT, effOf, effMem, effVar, effLit, effMake, effApp, lend, evLit, evNil, freeze, evField, evIndexT, orNil, evSlice, placeOf, evMap, mapOf, keyOk, evFrame, closed, fixed, sameEs, wit, Option.isSome_some, St.with, wantedD, Array.size, te, einl, inls, efr]
    exact ⟨_, rfl⟩
  have w1 : IntKind.i64.wrap (((k + 1 : Nat) : Int) + 1) = ((k + 1 + 1 : Nat) : Int) := by rw [wrap_in (by omega)]; omega
  have ln := isortTo_len (lt := ltA) l k
  have hst : isortTo ltA l (k + 1) = bub ltA (k + 1) (isortTo ltA l k) := rfl
  simp (maxSteps := 1000000) (implicitDefEqProofs := false) only [hlt, look_upd_same, upd_upd, ss, sd, evOp, evPlain, evVal, evMem, St.get, sliceOf, arrayOf, fieldsOf, normOf, norm, look, evVar, evFieldAddr, nameOf, St.alloc, St.drop, killOb, part, splice, depth, resultsV, ↓reduceIte, Nat.reduceBEq, Nat.reduceAdd, Nat.reduceSub, Nat.reduceMul, Nat.reduceEqDiff, Nat.reduceLeDiff, Nat.reduceLT, effOf, effMem, effVar, effLit, effMake, effApp, lend, evLit, evNil, freeze, evField, evIndexT, orNil, evSlice, placeOf, evMap, mapOf, keyOk, evFrame, closed, fixed, sameEs, wit, Option.isSome_some, St.with, wantedD, Array.size, te, einl, inls, efr]
  generalize hr : loopAt _ _ _ _ _ _ = r; revert r
  refine loop_inv (ι := { p : Nat × List Cut // bub ltA p.1 p.2 = isortTo ltA l (k + 1) ∧ p.2.length = l.length ∧ p.1 < l.length }) (fun p => [(9, .int .i64 (p.1.1 : Nat))]) (fun p => [(id, { es := 3, flat := true, t := t, app := app, elems := (p.1.2).map encCut })]) (fun p => p.1.1) ⟨(k + 1, isortTo ltA l k), hst.symm, ln, by dsimp only; omega⟩ (by simp (maxSteps := 1000000) (implicitDefEqProofs := false) only [upd_upd, ss, sd, evOp, evPlain, evVal, evMem, St.get, sliceOf, arrayOf, fieldsOf, normOf, norm, look, evVar, evFieldAddr, nameOf, St.alloc, St.drop, killOb, part, splice, depth, resultsV, ↓reduceIte, Nat.reduceBEq, Nat.reduceAdd, Nat.reduceSub, Nat.reduceMul, Nat.reduceEqDiff, Nat.reduceLeDiff, Nat.reduceLT, effOf, effMem, effVar, effLit, effMake, effApp, lend, evLit, evNil, freeze, evField, evIndexT, orNil, evSlice, placeOf, evMap, mapOf, keyOk, evFrame, closed, fixed, sameEs, wit, Option.isSome_some, St.with, wantedD, Array.size, te, einl, inls, efr]) ?_
  rintro ⟨⟨j, m⟩, hb, hlm, hj⟩
  dsimp only at hb hlm hj ⊢
  cases j with
  | zero =>
    have e1 : m = isortTo ltA l (k + 1) := hb
    subst e1
    simp (maxSteps := 1000000) (implicitDefEqProofs := false) only [Int.natCast_zero, Int.lt_irrefl, look_upd_same, upd_upd, evRegion_st hk1, w1, ss, sd, evOp, evPlain, evVal, evMem, St.get, sliceOf, arrayOf, fieldsOf, normOf, norm, look, evVar, evFieldAddr, nameOf, St.alloc, St.drop, killOb, part, splice, depth, resultsV, ↓reduceIte, Nat.reduceBEq, Nat.reduceAdd, Nat.reduceSub, Nat.reduceMul, Nat.reduceEqDiff, Nat.reduceLeDiff, Nat.reduceLT, effOf, effMem, effVar, effLit, effMake, effApp, lend, evLit, evNil, freeze, evField, evIndexT, orNil, evSlice, placeOf, evMap, mapOf, keyOk, evFrame, closed, fixed, sameEs, wit, Option.isSome_some, St.with, wantedD, Array.size, te, einl, inls, efr]
    exact ⟨⟨k + 1, by omega⟩, rfl, by dsimp only; omega⟩
  | succ j =>
    have gx : m[j + 1]? = some (m[j + 1]'(by omega)) := List.getElem?_eq_getElem _
    have gy : m[j]? = some (m[j]'(by omega)) := List.getElem?_eq_getElem _
    generalize m[j + 1]'(by omega) = x at *
    generalize m[j]'(by omega) = y at *
    have k1 := c105 x y
    have p0 : (0 : Int) < ((j + 1 : Nat) : Int) := by omega
    have w2 : IntKind.i64.wrap (((j + 1 : Nat) : Int) - 1) = (j : Nat) := by rw [wrap_in (by omega)]; omega
    have u1 : ((j + 1 : Nat) : Int) < l.length := by omega
    have u2 : (j : Int) < l.length := by omega
    have ltc := lt_cmp105 (x := x) (y := y)
    have eset : ((m.map encCut).set (j + 1) (encCut y)).set j (encCut x) = ((m.set (j + 1) y).set j x).map encCut := by rw [List.map_set, List.map_set]
    have eget : ((m.map encCut).set (j + 1) (encCut y))[j]? = some (encCut y) := by
      rw [List.getElem?_set_ne (by omega), List.getElem?_map, gy]; rfl
    by_cases hxy : cmpC x y < 0
    rotate_left
    · have e1 : m = isortTo ltA l (k + 1) := by rw [← hb, bub_stop gx gy (by rw [ltc]; exact hxy)]
      generalize cmpC x y = cxy at *
      subst e1
      unfold encCut at k1
      simp (maxSteps := 1000000) (implicitDefEqProofs := false) only [p0, w2, u1, u2, gx, gy, k1, hxy, encCut, look_upd_same, upd_upd, evRegion_st hk1, w1, Int.natCast_nonneg, Int.toNat_natCast, List.getElem?_map, ss, sd, evOp, evPlain, evVal, evMem, St.get, sliceOf, arrayOf, fieldsOf, normOf, norm, look, evVar, evFieldAddr, nameOf, St.alloc, St.drop, killOb, part, splice, depth, resultsV, ↓reduceIte, Nat.reduceBEq, Nat.reduceAdd, Nat.reduceSub, Nat.reduceMul, Nat.reduceEqDiff, Nat.reduceLeDiff, Nat.reduceLT, effOf, effMem, effVar, effLit, effMake, effApp, lend, evLit, evNil, freeze, evField, evIndexT, orNil, evSlice, placeOf, evMap, mapOf, keyOk, evFrame, closed, fixed, sameEs, wit, Option.isSome_some, St.with, wantedD, Array.size, te, einl, inls, efr]
      exact ⟨⟨k + 1, by omega⟩, rfl, by dsimp only; omega⟩
    · have e1 := bub_step gx gy (ltc.2 hxy)
      generalize cmpC x y = cxy at *
      generalize hM : (m.set (j + 1) y).set j x = m2 at *
      have hlm2 : m2.length = l.length := by rw [← hM]; simp [hlm]
      unfold encCut at k1
      simp only [encCut] at eset eget
      simp (maxSteps := 1000000) (implicitDefEqProofs := false) only [p0, w2, u1, u2, gx, gy, eset, eget, k1, hxy, encCut, look_upd_same, upd_upd, evRegion_st hk1, evRegion_st hk2, w1, Int.natCast_nonneg, Int.toNat_natCast, List.getElem?_map, ss, sd, evOp, evPlain, evVal, evMem, St.get, sliceOf, arrayOf, fieldsOf, normOf, norm, look, evVar, evFieldAddr, nameOf, St.alloc, St.drop, killOb, part, splice, depth, resultsV, ↓reduceIte, Nat.reduceBEq, Nat.reduceAdd, Nat.reduceSub, Nat.reduceMul, Nat.reduceEqDiff, Nat.reduceLeDiff, Nat.reduceLT, effOf, effMem, effVar, effLit, effMake, effApp, lend, evLit, evNil, freeze, evField, evIndexT, orNil, evSlice, placeOf, evMap, mapOf, keyOk, evFrame, closed, fixed, sameEs, wit, Option.isSome_some, St.with, wantedD, Array.size, te, einl, inls, efr]
      exact ⟨⟨(j, m2), by rw [← hb, e1], hlm2, by dsimp only; omega⟩, rfl, by dsimp only; omega⟩

set_option maxRecDepth 20000 in
set_option maxHeartbeats 8000000 in
theorem c132 (b id : Nat) (outer : List (List V)) (objs : List (Nat × Ob)) (l : List Cut) (hn : l.length ≤ 12) (lim : Int) (t app : Bool) (hl : look objs id = some { es := 3, flat := true, t := t, app := app, elems := (l).map encCut }) (hu : upd objs id { es := 3, flat := true, t := t, app := app, elems := (l).map encCut } = objs) :
    ∃ sl, (orcω E X0).inl b 132 [.own id 0 l.length, .int .i64 0, .int .i64 l.length, .int .i64 lim, .clo 105 [] []] { slots := [], outer := outer, objs := objs } = some (.tup [], { slots := sl, outer := outer, objs := upd objs id { es := 3, flat := true, t := t, app := app, elems := (isort ltA l).map encCut } }) := by
  refine (fun h : ∃ sl : List V, _ = some (V.tup [], ({ slots := sl, outer := outer, objs := upd objs id { es := 3, flat := true, t := t, app := app, elems := (isort ltA l).map encCut } } : St)) => h.elim fun sl h => ⟨sl, inl_of rfl fn132 rfl h⟩) ?_
  have k1 := fun b outer => c163 b id outer objs l (by omega) t app hl hu
  obtain ⟨f, k2⟩ := Classical.skolem.1 fun b => Classical.skolem.1 (k1 b)
  have w1 : IntKind.i64.wrap ((l.length : Int) - 0) = l.length := by rw [wrap_in (by omega)]; omega
  have h12 : (l.length : Int) ≤ 12 := by omega
  simp (maxSteps := 1000000) (implicitDefEqProofs := false) only [Try.ntmps132, Try.results132, efc132, fc132, ss, sd, evOp, evPlain, evVal, evMem, St.get, sliceOf, arrayOf, fieldsOf, normOf, norm, look, evVar, evFieldAddr, nameOf, St.alloc, St.drop, killOb, part, splice, depth, resultsV, ↓reduceIte, Nat.reduceBEq, Nat.reduceAdd, Nat.reduceSub, Nat.reduceMul, Nat.reduceEqDiff, Nat.reduceLeDiff, Nat.reduceLT, effOf, effMem, effVar, effLit, effMake, effApp, lend, evLit, evNil, freeze, evField, evIndexT, orNil, evSlice, placeOf, evMap, mapOf, keyOk, evFrame, closed, fixed, sameEs, wit, Option.isSome_some, St.with, wantedD, Array.size, te, einl, inls, efr]
  generalize hr : loopAt _ _ _ _ _ _ = r; revert r
  refine loop_inv (ι := Unit) (fun _ => []) (fun _ => []) (fun _ => 0) () (by simp (maxSteps := 1000000) (implicitDefEqProofs := false) only [ss, sd, evOp, evPlain, evVal, evMem, St.get, sliceOf, arrayOf, fieldsOf, normOf, norm, look, evVar, evFieldAddr, nameOf, St.alloc, St.drop, killOb, part, splice, depth, resultsV, ↓reduceIte, Nat.reduceBEq, Nat.reduceAdd, Nat.reduceSub, Nat.reduceMul, Nat.reduceEqDiff, Nat.reduceLeDiff, Nat.reduceLT, effOf, effMem, effVar, effLit, effMake, effApp, lend, evLit, evNil, freeze, evField, evIndexT, orNil, evSlice, placeOf, evMap, mapOf, keyOk, evFrame, closed, fixed, sameEs, wit, Option.isSome_some, St.with, wantedD, Array.size, te, einl, inls, efr]) ?_
  intro _
  simp (maxSteps := 1000000) (implicitDefEqProofs := false) only [w1, h12, k2, Try.ntmps132, Try.results132, efc132, fc132, ss, sd, evOp, evPlain, evVal, evMem, St.get, sliceOf, arrayOf, fieldsOf, normOf, norm, look, evVar, evFieldAddr, nameOf, St.alloc, St.drop, killOb, part, splice, depth, resultsV, ↓reduceIte, Nat.reduceBEq, Nat.reduceAdd, Nat.reduceSub, Nat.reduceMul, Nat.reduceEqDiff, Nat.reduceLeDiff, Nat.reduceLT, effOf, effMem, effVar, effLit, effMake, effApp, lend, evLit, evNil, freeze, evField, evIndexT, orNil, evSlice, placeOf, evMap, mapOf, keyOk, evFrame, closed, fixed, sameEs, wit, Option.isSome_some, St.with, wantedD, Array.size, te, einl, inls, efr]
  exact ⟨_, rfl⟩

set_option maxRecDepth 20000 in
set_option maxHeartbeats 8000000 in
theorem c104 (b id : Nat) (outer : List (List V)) (objs : List (Nat × Ob)) (l : List Cut) (hn : l.length ≤ 12) (t app : Bool) (hl : look objs id = some { es := 3, flat := true, t := t, app := app, elems := (l).map encCut }) (hu : upd objs id { es := 3, flat := true, t := t, app := app, elems := (l).map encCut } = objs) :
    ∃ sl, (orcω E X0).inl b 104 [.own id 0 l.length, .clo 105 [] []] { slots := [], outer := outer, objs := objs } = some (.tup [], { slots := sl, outer := outer, objs := upd objs id { es := 3, flat := true, t := t, app := app, elems := (isort ltA l).map encCut } }) := by
  refine (fun h : ∃ sl : List V, _ = some (V.tup [], ({ slots := sl, outer := outer, objs := upd objs id { es := 3, flat := true, t := t, app := app, elems := (isort ltA l).map encCut } } : St)) => h.elim fun sl h => ⟨sl, inl_of rfl fn104 rfl h⟩) ?_
  have k0 := c129 l.length hn
  have k1 := fun b outer => c132 b id outer objs l hn (bitsOf l.length) t app hl hu
  obtain ⟨f, k2⟩ := Classical.skolem.1 fun b => Classical.skolem.1 (k1 b)
  have w1 : IntKind.u64.wrap (l.length : Int) = l.length := IntWalk.u64_in _ (by omega)
  simp (maxSteps := 1000000) (implicitDefEqProofs := false) only [Try.ntmps104, Try.results104, efc104, w1, k0, k2, ss, sd, evOp, evPlain, evVal, evMem, St.get, sliceOf, arrayOf, fieldsOf, normOf, norm, look, evVar, evFieldAddr, nameOf, St.alloc, St.drop, killOb, part, splice, depth, resultsV, ↓reduceIte, Nat.reduceBEq, Nat.reduceAdd, Nat.reduceSub, Nat.reduceMul, Nat.reduceEqDiff, Nat.reduceLeDiff, Nat.reduceLT, effOf, effMem, effVar, effLit, effMake, effApp, lend, evLit, evNil, freeze, evField, evIndexT, orNil, evSlice, placeOf, evMap, mapOf, keyOk, evFrame, closed, fixed, sameEs, wit, Option.isSome_some, St.with, wantedD, Array.size, te, einl, inls, efr]
  exact ⟨_, rfl⟩

end Go.AM.D
