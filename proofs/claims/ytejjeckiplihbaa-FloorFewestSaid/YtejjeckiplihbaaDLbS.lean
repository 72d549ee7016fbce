/-
The lower bound: the sorted rolls, LowerBound of the program.
-/
import Derived.Test.YtejjeckiplihbaaDCmp
import Derived.Test.YtejjeckiplihbaaDLbP
import Derived.Test.YtejjeckiplihbaaDUsed
set_option linter.unusedSimpArgs false
set_option maxRecDepth 20000

namespace Go.AM.D
open Go Go.AM Go.Proofs

def orE : List Int → Int
  | [] => 0
  | x :: l => if x = 0 then orE l else x
theorem orE_zero {x : Int} {a : List Int} (h : ∀ y ∈ a, y = 0) (b : List Int) : orE (a ++ x :: b) = if x = 0 then orE b else x := by
  induction a with
  | nil => rfl
  | cons y a ih =>
    rw [List.cons_append, orE, if_pos (h y List.mem_cons_self)]
    exact ih fun z hz => h z (List.mem_cons_of_mem _ hz)
theorem orE_all {a : List Int} (h : ∀ y ∈ a, y = 0) : orE a = 0 := by
  induction a with
  | nil => rfl
  | cons y a ih =>
    rw [orE, if_pos (h y List.mem_cons_self)]
    exact ih fun z hz => h z (List.mem_cons_of_mem _ hz)
theorem c98 (l : List Int) (hl : l.length ≤ 1000000) : (orcω E X0).call 98 [.sl false (l.map fun c => V.int .i64 c)] = some (.int .i64 (orE l)) := by
  refine call_of rfl fn98 rfl ?_
  simp (maxSteps := 1000000) (implicitDefEqProofs := false) only [Try.ntmps98, Try.results98, efc98, fc98, ss, sd, evOp, evPlain, evVal, evMem, St.get, sliceOf, arrayOf, fieldsOf, normOf, norm, look, evVar, evFieldAddr, nameOf, St.alloc, St.drop, killOb, part, splice, depth, resultsV, ↓reduceIte, Nat.reduceBEq, Nat.reduceAdd, Nat.reduceSub, Nat.reduceMul, Nat.reduceEqDiff, Nat.reduceLeDiff, Nat.reduceLT, effOf, effMem, effVar, effLit, effMake, effApp, lend, evLit, evNil, freeze, evField, evIndexT, orNil, evSlice, placeOf, evMap, mapOf, keyOk, evFrame, closed, fixed, sameEs, wit, Option.isSome_some, St.with, wantedD, Array.size, te, einl, inls, efr]
  generalize hr : loopAt _ _ _ _ _ _ = r; revert r
  refine loop_list l (fun pre _ => [(8, .int .i64 pre.length)]) (fun _ _ => []) (fun pre (_ : Unit) => ∀ y ∈ pre, y = 0) () (by omega) (by simp (maxSteps := 1000000) (implicitDefEqProofs := false) only [ss, sd, evOp, evPlain, evVal, evMem, St.get, sliceOf, arrayOf, fieldsOf, normOf, norm, look, evVar, evFieldAddr, nameOf, St.alloc, St.drop, killOb, part, splice, depth, resultsV, ↓reduceIte, Nat.reduceBEq, Nat.reduceAdd, Nat.reduceSub, Nat.reduceMul, Nat.reduceEqDiff, Nat.reduceLeDiff, Nat.reduceLT, effOf, effMem, effVar, effLit, effMake, effApp, lend, evLit, evNil, freeze, evField, evIndexT, orNil, evSlice, placeOf, evMap, mapOf, keyOk, evFrame, closed, fixed, sameEs, wit, Option.isSome_some, St.with, wantedD, Array.size, te, einl, inls, efr]) (fun _ h => by cases h) (fun _ hi => ?_) (fun pre a post _ hp hi g1 g2 g3 g4 => ?_)
  · have e := orE_all hi
    simp (maxSteps := 1000000) (implicitDefEqProofs := false) only [Int.lt_irrefl, e, List.length_map, Try.ntmps98, Try.results98, efc98, fc98, ss, sd, evOp, evPlain, evVal, evMem, St.get, sliceOf, arrayOf, fieldsOf, normOf, norm, look, evVar, evFieldAddr, nameOf, St.alloc, St.drop, killOb, part, splice, depth, resultsV, ↓reduceIte, Nat.reduceBEq, Nat.reduceAdd, Nat.reduceSub, Nat.reduceMul, Nat.reduceEqDiff, Nat.reduceLeDiff, Nat.reduceLT, effOf, effMem, effVar, effLit, effMake, effApp, lend, evLit, evNil, freeze, evField, evIndexT, orNil, evSlice, placeOf, evMap, mapOf, keyOk, evFrame, closed, fixed, sameEs, wit, Option.isSome_some, St.with, wantedD, Array.size, te, einl, inls, efr]
  · have e := orE_zero (x := a) hi post
    rw [← hp] at e
    by_cases h : a = 0
    · subst h
      have hi' : ∀ y ∈ pre ++ [0], y = 0 := fun y hy => by
        rcases List.mem_append.1 hy with q | q
        · exact hi y q
        · exact List.mem_singleton.1 q
      simp (maxSteps := 1000000) (implicitDefEqProofs := false) only [g1, g2, g3, g4, bne_self_eq_false, Int.natCast_nonneg, Int.toNat_natCast, List.getElem?_map, List.length_map, ss, sd, evOp, evPlain, evVal, evMem, St.get, sliceOf, arrayOf, fieldsOf, normOf, norm, look, evVar, evFieldAddr, nameOf, St.alloc, St.drop, killOb, part, splice, depth, resultsV, ↓reduceIte, Nat.reduceBEq, Nat.reduceAdd, Nat.reduceSub, Nat.reduceMul, Nat.reduceEqDiff, Nat.reduceLeDiff, Nat.reduceLT, effOf, effMem, effVar, effLit, effMake, effApp, lend, evLit, evNil, freeze, evField, evIndexT, orNil, evSlice, placeOf, evMap, mapOf, keyOk, evFrame, closed, fixed, sameEs, wit, Option.isSome_some, St.with, wantedD, Array.size, te, einl, inls, efr]
      first | exact ⟨(), rfl, hi'⟩ | exact ⟨(), hi'⟩
    · rw [if_neg h] at e
      have q : (a != 0) = true := by simpa using h
      simp (maxSteps := 1000000) (implicitDefEqProofs := false) only [g1, g2, g3, g4, q, e, Int.natCast_nonneg, Int.toNat_natCast, List.getElem?_map, List.length_map, Try.ntmps98, Try.results98, efc98, fc98, ss, sd, evOp, evPlain, evVal, evMem, St.get, sliceOf, arrayOf, fieldsOf, normOf, norm, look, evVar, evFieldAddr, nameOf, St.alloc, St.drop, killOb, part, splice, depth, resultsV, ↓reduceIte, Nat.reduceBEq, Nat.reduceAdd, Nat.reduceSub, Nat.reduceMul, Nat.reduceEqDiff, Nat.reduceLeDiff, Nat.reduceLT, effOf, effMem, effVar, effLit, effMake, effApp, lend, evLit, evNil, freeze, evField, evIndexT, orNil, evSlice, placeOf, evMap, mapOf, keyOk, evFrame, closed, fixed, sameEs, wit, Option.isSome_some, St.with, wantedD, Array.size, te, einl, inls, efr]
def cmpR (x y : Roll) : Int := orE [cmpI x.sh y.sh, cmpI y.l x.l]
theorem lt_cmp97 {x y : Roll} : ltR x y = true ↔ cmpR x y < 0 := by
  rw [ltR_iff]
  unfold cmpR
  simp only [orE]
  unfold cmpI
  repeat' split
  all_goals omega
theorem okT97 : okCode (Try.f97.body.getD .skip) = true := by decide +kernel
theorem c97 (x y : Roll) : (orcω E X0).call 97 [encRoll x, encRoll y] = some (.int .i64 (cmpR x y)) := by
  refine call_of rfl fn97 rfl ?_
  have hok := okT97
  simp only [Try.f97, Option.getD_some, okCode, Bool.and_eq_true, Bool.and_true, Bool.true_and] at hok
  have k1 := c99 x.sh y.sh
  have k2 := c99 y.l x.l
  have k3 := c98 [cmpI x.sh y.sh, cmpI y.l x.l] (by simp)
  simp only [List.map_cons, List.map_nil] at k3
  unfold cmpR
  generalize orE [cmpI x.sh y.sh, cmpI y.l x.l] = z at *
  generalize cmpI x.sh y.sh = u at *
  generalize cmpI y.l x.l = v at *
  unfold encRoll
  simp (maxSteps := 1000000) (implicitDefEqProofs := false) only [Try.ntmps97, Try.results97, efc97, evRegion_st hok, k1, k2, k3, ss, sd, evOp, evPlain, evVal, evMem, St.get, sliceOf, arrayOf, fieldsOf, normOf, norm, look, evVar, evFieldAddr, nameOf, St.alloc, St.drop, killOb, part, splice, depth, resultsV, ↓reduceIte, Nat.reduceBEq, Nat.reduceAdd, Nat.reduceSub, Nat.reduceMul, Nat.reduceEqDiff, Nat.reduceLeDiff, Nat.reduceLT, effOf, effMem, effVar, effLit, effMake, effApp, lend, evLit, evNil, freeze, evField, evIndexT, orNil, evSlice, placeOf, evMap, mapOf, keyOk, evFrame, closed, fixed, sameEs, wit, Option.isSome_some, St.with, wantedD, Array.size, te, einl, inls, efr]

theorem okT144 : okCode (Try.f144.body.getD .skip) = true := by decide +kernel
set_option maxRecDepth 20000 in
set_option maxHeartbeats 8000000 in
theorem c144 (b id : Nat) (outer : List (List V)) (objs : List (Nat × Ob)) (l : List Roll) (hn : l.length ≤ 1000000) (t app : Bool) (hl : look objs id = some { es := 3, flat := true, t := t, app := app, elems := (l).map encRoll }) (hu : upd objs id { es := 3, flat := true, t := t, app := app, elems := (l).map encRoll } = objs) :
    ∃ sl, (orcω E X0).inl b 144 [.own id 0 l.length, .int .i64 0, .int .i64 l.length, .clo 97 [] []] { slots := [], outer := outer, objs := objs } = some (.tup [], { slots := sl, outer := outer, objs := upd objs id { es := 3, flat := true, t := t, app := app, elems := (isort ltR l).map encRoll } }) := by
  refine (fun h : ∃ sl : List V, _ = some (V.tup [], ({ slots := sl, outer := outer, objs := upd objs id { es := 3, flat := true, t := t, app := app, elems := (isort ltR l).map encRoll } } : St)) => h.elim fun sl h => ⟨sl, inl_of rfl fn144 rfl h⟩) ?_
  have hok := okT144
  simp only [Try.f144, Option.getD_some, okCode, Bool.and_eq_true, Bool.and_true, Bool.true_and] at hok
  obtain ⟨hk1, hk2⟩ := hok
  have q1 : IntKind.i64.wrap (0 + 1) = 1 := by decide
  simp (maxSteps := 1000000) (implicitDefEqProofs := false) only [Try.ntmps144, Try.results144, efc144, fc144, q1, ss, sd, evOp, evPlain, evVal, evMem, St.get, sliceOf, arrayOf, fieldsOf, normOf, norm, look, evVar, evFieldAddr, nameOf, St.alloc, St.drop, killOb, part, splice, depth, resultsV, ↓reduceIte, Nat.reduceBEq, Nat.reduceAdd, Nat.reduceSub, Nat.reduceMul, Nat.reduceEqDiff, Nat.reduceLeDiff, Nat.reduceLT, effOf, effMem, effVar, effLit, effMake, effApp, lend, evLit, evNil, freeze, evField, evIndexT, orNil, evSlice, placeOf, evMap, mapOf, keyOk, evFrame, closed, fixed, sameEs, wit, Option.isSome_some, St.with, wantedD, Array.size, te, einl, inls, efr]
  generalize hr : loopAt _ _ _ _ _ _ = r; revert r
  refine loop_inv (ι := { k : Nat // k = 0 ∨ k < l.length }) (fun k => [(8, .int .i64 ((k.1 + 1 : Nat) : Int))]) (fun k => [(id, { es := 3, flat := true, t := t, app := app, elems := (isortTo ltR l k.1).map encRoll })]) (fun k => l.length - k.1) ⟨0, .inl rfl⟩ (by simp (maxSteps := 1000000) (implicitDefEqProofs := false) only [isortTo, hu, Int.natCast_zero, Int.natCast_one, Nat.zero_add, ss, sd, evOp, evPlain, evVal, evMem, St.get, sliceOf, arrayOf, fieldsOf, normOf, norm, look, evVar, evFieldAddr, nameOf, St.alloc, St.drop, killOb, part, splice, depth, resultsV, ↓reduceIte, Nat.reduceBEq, Nat.reduceAdd, Nat.reduceSub, Nat.reduceMul, Nat.reduceEqDiff, Nat.reduceLeDiff, Nat.reduceLT, effOf, effMem, effVar, effLit, effMake, effApp, lend, evLit, evNil, freeze, evField, evIndexT, orNil, evSlice, placeOf, evMap, mapOf, keyOk, evFrame, closed, fixed, sameEs, wit, Option.isSome_some, St.with, wantedD, Array.size, te, einl, inls, efr]) ?_
  rintro ⟨k, hk⟩
  dsimp only
  by_cases hlt : ((k + 1 : Nat) : Int) < l.length
  rotate_left
  · have e1 : isort ltR l = isortTo ltR l k := by
      unfold isort
      congr 1
      omega
    rw [e1]
    simp (maxSteps := 1000000) (implicitDefEqProofs := false) only [hlt, Try.ntmps144, Try.results144, efc144, fc144, ss, sd, evOp, evPlain, evVal, evMem, St.get, sliceOf, arrayOf, fieldsOf, normOf, norm, look, evVar, evFieldAddr, nameOf, St.alloc, St.drop, killOb, part, splice, depth, resultsV, ↓reduceIte, Nat.reduceBEq, Nat.reduceAdd, Nat.reduceSub, Nat.reduceMul, Nat.reduceEqDiff, Nat.reduceLeDiff, Nat.reduceLT, effOf, effMem, effVar, effLit, effMake, effApp, lend, evLit, evNil, freeze, evField, evIndexT, orNil, evSlice, placeOf, evMap, mapOf, keyOk, evFrame, closed, fixed, sameEs, wit, Option.isSome_some, St.with, wantedD, Array.size, te, einl, inls, efr]
    exact ⟨_, rfl⟩
  have w1 : IntKind.i64.wrap (((k + 1 : Nat) : Int) + 1) = ((k + 1 + 1 : Nat) : Int) := by rw [wrap_in (by omega)]; omega
  have ln := isortTo_len (lt := ltR) l k
  have hst : isortTo ltR l (k + 1) = bub ltR (k + 1) (isortTo ltR l k) := rfl
  simp (maxSteps := 1000000) (implicitDefEqProofs := false) only [hlt, look_upd_same, upd_upd, ss, sd, evOp, evPlain, evVal, evMem, St.get, sliceOf, arrayOf, fieldsOf, normOf, norm, look, evVar, evFieldAddr, nameOf, St.alloc, St.drop, killOb, part, splice, depth, resultsV, ↓reduceIte, Nat.reduceBEq, Nat.reduceAdd, Nat.reduceSub, Nat.reduceMul, Nat.reduceEqDiff, Nat.reduceLeDiff, Nat.reduceLT, effOf, effMem, effVar, effLit, effMake, effApp, lend, evLit, evNil, freeze, evField, evIndexT, orNil, evSlice, placeOf, evMap, mapOf, keyOk, evFrame, closed, fixed, sameEs, wit, Option.isSome_some, St.with, wantedD, Array.size, te, einl, inls, efr]
  generalize hr : loopAt _ _ _ _ _ _ = r; revert r
  refine loop_inv (ι := { p : Nat × List Roll // bub ltR p.1 p.2 = isortTo ltR l (k + 1) ∧ p.2.length = l.length ∧ p.1 < l.length }) (fun p => [(9, .int .i64 (p.1.1 : Nat))]) (fun p => [(id, { es := 3, flat := true, t := t, app := app, elems := (p.1.2).map encRoll })]) (fun p => p.1.1) ⟨(k + 1, isortTo ltR l k), hst.symm, ln, by dsimp only; omega⟩ (by simp (maxSteps := 1000000) (implicitDefEqProofs := false) only [upd_upd, ss, sd, evOp, evPlain, evVal, evMem, St.get, sliceOf, arrayOf, fieldsOf, normOf, norm, look, evVar, evFieldAddr, nameOf, St.alloc, St.drop, killOb, part, splice, depth, resultsV, ↓reduceIte, Nat.reduceBEq, Nat.reduceAdd, Nat.reduceSub, Nat.reduceMul, Nat.reduceEqDiff, Nat.reduceLeDiff, Nat.reduceLT, effOf, effMem, effVar, effLit, effMake, effApp, lend, evLit, evNil, freeze, evField, evIndexT, orNil, evSlice, placeOf, evMap, mapOf, keyOk, evFrame, closed, fixed, sameEs, wit, Option.isSome_some, St.with, wantedD, Array.size, te, einl, inls, efr]) ?_
  rintro ⟨⟨j, m⟩, hb, hlm, hj⟩
  dsimp only at hb hlm hj ⊢
  cases j with
  | zero =>
    have e1 : m = isortTo ltR l (k + 1) := hb
    subst e1
    simp (maxSteps := 1000000) (implicitDefEqProofs := false) only [Int.natCast_zero, Int.lt_irrefl, look_upd_same, upd_upd, evRegion_st hk1, w1, ss, sd, evOp, evPlain, evVal, evMem, St.get, sliceOf, arrayOf, fieldsOf, normOf, norm, look, evVar, evFieldAddr, nameOf, St.alloc, St.drop, killOb, part, splice, depth, resultsV, ↓reduceIte, Nat.reduceBEq, Nat.reduceAdd, Nat.reduceSub, Nat.reduceMul, Nat.reduceEqDiff, Nat.reduceLeDiff, Nat.reduceLT, effOf, effMem, effVar, effLit, effMake, effApp, lend, evLit, evNil, freeze, evField, evIndexT, orNil, evSlice, placeOf, evMap, mapOf, keyOk, evFrame, closed, fixed, sameEs, wit, Option.isSome_some, St.with, wantedD, Array.size, te, einl, inls, efr]
    exact ⟨⟨k + 1, by omega⟩, rfl, by dsimp only; omega⟩
  | succ j =>
    have gx : m[j + 1]? = some (m[j + 1]'(by omega)) := List.getElem?_eq_getElem _
    have gy : m[j]? = some (m[j]'(by omega)) := List.getElem?_eq_getElem _
    generalize m[j + 1]'(by omega) = x at *
    generalize m[j]'(by omega) = y at *
    have k1 := c97 x y
    have p0 : (0 : Int) < ((j + 1 : Nat) : Int) := by omega
    have w2 : IntKind.i64.wrap (((j + 1 : Nat) : Int) - 1) = (j : Nat) := by rw [wrap_in (by omega)]; omega
    have u1 : ((j + 1 : Nat) : Int) < l.length := by omega
    have u2 : (j : Int) < l.length := by omega
    have ltc := lt_cmp97 (x := x) (y := y)
    have eset : ((m.map encRoll).set (j + 1) (encRoll y)).set j (encRoll x) = ((m.set (j + 1) y).set j x).map encRoll := by rw [List.map_set, List.map_set]
    have eget : ((m.map encRoll).set (j + 1) (encRoll y))[j]? = some (encRoll y) := by
      rw [List.getElem?_set_ne (by omega), List.getElem?_map, gy]; rfl
    by_cases hxy : cmpR x y < 0
    rotate_left
    · have e1 : m = isortTo ltR l (k + 1) := by rw [← hb, bub_stop gx gy (by rw [ltc]; exact hxy)]
      generalize cmpR x y = cxy at *
      subst e1
      unfold encRoll at k1
      simp (maxSteps := 1000000) (implicitDefEqProofs := false) only [p0, w2, u1, u2, gx, gy, k1, hxy, encRoll, look_upd_same, upd_upd, evRegion_st hk1, w1, Int.natCast_nonneg, Int.toNat_natCast, List.getElem?_map, ss, sd, evOp, evPlain, evVal, evMem, St.get, sliceOf, arrayOf, fieldsOf, normOf, norm, look, evVar, evFieldAddr, nameOf, St.alloc, St.drop, killOb, part, splice, depth, resultsV, ↓reduceIte, Nat.reduceBEq, Nat.reduceAdd, Nat.reduceSub, Nat.reduceMul, Nat.reduceEqDiff, Nat.reduceLeDiff, Nat.reduceLT, effOf, effMem, effVar, effLit, effMake, effApp, lend, evLit, evNil, freeze, evField, evIndexT, orNil, evSlice, placeOf, evMap, mapOf, keyOk, evFrame, closed, fixed, sameEs, wit, Option.isSome_some, St.with, wantedD, Array.size, te, einl, inls, efr]
      exact ⟨⟨k + 1, by omega⟩, rfl, by dsimp only; omega⟩
    · have e1 := bub_step gx gy (ltc.2 hxy)
      generalize cmpR x y = cxy at *
      generalize hM : (m.set (j + 1) y).set j x = m2 at *
      have hlm2 : m2.length = l.length := by rw [← hM]; simp [hlm]
      unfold encRoll at k1
      simp only [encRoll] at eset eget
      simp (maxSteps := 1000000) (implicitDefEqProofs := false) only [p0, w2, u1, u2, gx, gy, eset, eget, k1, hxy, encRoll, look_upd_same, upd_upd, evRegion_st hk1, evRegion_st hk2, w1, Int.natCast_nonneg, Int.toNat_natCast, List.getElem?_map, ss, sd, evOp, evPlain, evVal, evMem, St.get, sliceOf, arrayOf, fieldsOf, normOf, norm, look, evVar, evFieldAddr, nameOf, St.alloc, St.drop, killOb, part, splice, depth, resultsV, ↓reduceIte, Nat.reduceBEq, Nat.reduceAdd, Nat.reduceSub, Nat.reduceMul, Nat.reduceEqDiff, Nat.reduceLeDiff, Nat.reduceLT, effOf, effMem, effVar, effLit, effMake, effApp, lend, evLit, evNil, freeze, evField, evIndexT, orNil, evSlice, placeOf, evMap, mapOf, keyOk, evFrame, closed, fixed, sameEs, wit, Option.isSome_some, St.with, wantedD, Array.size, te, einl, inls, efr]
      exact ⟨⟨(j, m2), by rw [← hb, e1], hlm2, by dsimp only; omega⟩, rfl, by dsimp only; omega⟩

set_option maxRecDepth 20000 in
set_option maxHeartbeats 8000000 in
theorem c128 (b id : Nat) (outer : List (List V)) (objs : List (Nat × Ob)) (l : List Roll) (hn : l.length ≤ 12) (lim : Int) (t app : Bool) (hl : look objs id = some { es := 3, flat := true, t := t, app := app, elems := (l).map encRoll }) (hu : upd objs id { es := 3, flat := true, t := t, app := app, elems := (l).map encRoll } = objs) :
    ∃ sl, (orcω E X0).inl b 128 [.own id 0 l.length, .int .i64 0, .int .i64 l.length, .int .i64 lim, .clo 97 [] []] { slots := [], outer := outer, objs := objs } = some (.tup [], { slots := sl, outer := outer, objs := upd objs id { es := 3, flat := true, t := t, app := app, elems := (isort ltR l).map encRoll } }) := by
  refine (fun h : ∃ sl : List V, _ = some (V.tup [], ({ slots := sl, outer := outer, objs := upd objs id { es := 3, flat := true, t := t, app := app, elems := (isort ltR l).map encRoll } } : St)) => h.elim fun sl h => ⟨sl, inl_of rfl fn128 rfl h⟩) ?_
  have k1 := fun b outer => c144 b id outer objs l (by omega) t app hl hu
  obtain ⟨f, k2⟩ := Classical.skolem.1 fun b => Classical.skolem.1 (k1 b)
  have w1 : IntKind.i64.wrap ((l.length : Int) - 0) = l.length := by rw [wrap_in (by omega)]; omega
  have h12 : (l.length : Int) ≤ 12 := by omega
  simp (maxSteps := 1000000) (implicitDefEqProofs := false) only [Try.ntmps128, Try.results128, efc128, fc128, ss, sd, evOp, evPlain, evVal, evMem, St.get, sliceOf, arrayOf, fieldsOf, normOf, norm, look, evVar, evFieldAddr, nameOf, St.alloc, St.drop, killOb, part, splice, depth, resultsV, ↓reduceIte, Nat.reduceBEq, Nat.reduceAdd, Nat.reduceSub, Nat.reduceMul, Nat.reduceEqDiff, Nat.reduceLeDiff, Nat.reduceLT, effOf, effMem, effVar, effLit, effMake, effApp, lend, evLit, evNil, freeze, evField, evIndexT, orNil, evSlice, placeOf, evMap, mapOf, keyOk, evFrame, closed, fixed, sameEs, wit, Option.isSome_some, St.with, wantedD, Array.size, te, einl, inls, efr]
  generalize hr : loopAt _ _ _ _ _ _ = r; revert r
  refine loop_inv (ι := Unit) (fun _ => []) (fun _ => []) (fun _ => 0) () (by simp (maxSteps := 1000000) (implicitDefEqProofs := false) only [ss, sd, evOp, evPlain, evVal, evMem, St.get, sliceOf, arrayOf, fieldsOf, normOf, norm, look, evVar, evFieldAddr, nameOf, St.alloc, St.drop, killOb, part, splice, depth, resultsV, ↓reduceIte, Nat.reduceBEq, Nat.reduceAdd, Nat.reduceSub, Nat.reduceMul, Nat.reduceEqDiff, Nat.reduceLeDiff, Nat.reduceLT, effOf, effMem, effVar, effLit, effMake, effApp, lend, evLit, evNil, freeze, evField, evIndexT, orNil, evSlice, placeOf, evMap, mapOf, keyOk, evFrame, closed, fixed, sameEs, wit, Option.isSome_some, St.with, wantedD, Array.size, te, einl, inls, efr]) ?_
  intro _
  simp (maxSteps := 1000000) (implicitDefEqProofs := false) only [w1, h12, k2, Try.ntmps128, Try.results128, efc128, fc128, ss, sd, evOp, evPlain, evVal, evMem, St.get, sliceOf, arrayOf, fieldsOf, normOf, norm, look, evVar, evFieldAddr, nameOf, St.alloc, St.drop, killOb, part, splice, depth, resultsV, ↓reduceIte, Nat.reduceBEq, Nat.reduceAdd, Nat.reduceSub, Nat.reduceMul, Nat.reduceEqDiff, Nat.reduceLeDiff, Nat.reduceLT, effOf, effMem, effVar, effLit, effMake, effApp, lend, evLit, evNil, freeze, evField, evIndexT, orNil, evSlice, placeOf, evMap, mapOf, keyOk, evFrame, closed, fixed, sameEs, wit, Option.isSome_some, St.with, wantedD, Array.size, te, einl, inls, efr]
  exact ⟨_, rfl⟩

set_option maxRecDepth 20000 in
set_option maxHeartbeats 8000000 in
theorem c96 (b id : Nat) (outer : List (List V)) (objs : List (Nat × Ob)) (l : List Roll) (hn : l.length ≤ 12) (t app : Bool) (hl : look objs id = some { es := 3, flat := true, t := t, app := app, elems := (l).map encRoll }) (hu : upd objs id { es := 3, flat := true, t := t, app := app, elems := (l).map encRoll } = objs) :
    ∃ sl, (orcω E X0).inl b 96 [.own id 0 l.length, .clo 97 [] []] { slots := [], outer := outer, objs := objs } = some (.tup [], { slots := sl, outer := outer, objs := upd objs id { es := 3, flat := true, t := t, app := app, elems := (isort ltR l).map encRoll } }) := by
  refine (fun h : ∃ sl : List V, _ = some (V.tup [], ({ slots := sl, outer := outer, objs := upd objs id { es := 3, flat := true, t := t, app := app, elems := (isort ltR l).map encRoll } } : St)) => h.elim fun sl h => ⟨sl, inl_of rfl fn96 rfl h⟩) ?_
  have k0 := c129 l.length hn
  have k1 := fun b outer => c128 b id outer objs l hn (bitsOf l.length) t app hl hu
  obtain ⟨f, k2⟩ := Classical.skolem.1 fun b => Classical.skolem.1 (k1 b)
  have w1 : IntKind.u64.wrap (l.length : Int) = l.length := IntWalk.u64_in _ (by omega)
  simp (maxSteps := 1000000) (implicitDefEqProofs := false) only [Try.ntmps96, Try.results96, efc96, w1, k0, k2, ss, sd, evOp, evPlain, evVal, evMem, St.get, sliceOf, arrayOf, fieldsOf, normOf, norm, look, evVar, evFieldAddr, nameOf, St.alloc, St.drop, killOb, part, splice, depth, resultsV, ↓reduceIte, Nat.reduceBEq, Nat.reduceAdd, Nat.reduceSub, Nat.reduceMul, Nat.reduceEqDiff, Nat.reduceLeDiff, Nat.reduceLT, effOf, effMem, effVar, effLit, effMake, effApp, lend, evLit, evNil, freeze, evField, evIndexT, orNil, evSlice, placeOf, evMap, mapOf, keyOk, evFrame, closed, fixed, sameEs, wit, Option.isSome_some, St.with, wantedD, Array.size, te, einl, inls, efr]
  exact ⟨_, rfl⟩


end Go.AM.D
