/- A part of the proof: the texts DLbS, DLb, one after another. No condition. -/
import Derived.Test.YtejjeckiplihbaaDCmp
import Derived.Test.YtejjeckiplihbaaDLbP
import Derived.Test.YtejjeckiplihbaaDUsed
import Derived.Test.YtejjeckiplihbaaDTotal
set_option linter.unusedSimpArgs false
set_option maxRecDepth 20000

section
/-
The lower bound: the sorted rolls, LowerBound of the program.
-/
namespace Go.AM.D
open Go Go.AM Go.Proofs

def orE : List Int → Int
  | [] => 0
  | x :: l => if x = 0 then orE l else x
theorem orE_zero {x : Int} {a : List Int} (h : ∀ y ∈ a, y = 0) (b : List Int) : orE (a ++ x :: b) = if x = 0 then orE b else x := by
  induction a with
  | nil => rfl
  | cons y a ih =>
    rw [List.cons_append, orE, if_pos (h y List.mem_cons_self)]
    exact ih fun z hz => h z (List.mem_cons_of_mem _ hz)
theorem orE_all {a : List Int} (h : ∀ y ∈ a, y = 0) : orE a = 0 := by
  induction a with
  | nil => rfl
  | cons y a ih =>
    rw [orE, if_pos (h y List.mem_cons_self)]
    exact ih fun z hz => h z (List.mem_cons_of_mem _ hz)
theorem c98 (l : List Int) (hl : l.length ≤ 1000000) : (orcω E X0).call 98 [.sl false (l.map fun c => V.int .i64 c)] = some (.int .i64 (orE l)) := by
  refine call_of rfl fn98 rfl ?_
  simp (maxSteps := 1000000) (implicitDefEqProofs := false) only [Try.ntmps98, Try.results98, efc98, fc98, ss, sd, evOp, evPlain, evVal, evMem, St.get, sliceOf, arrayOf, fieldsOf, normOf, norm, look, evVar, evFieldAddr, nameOf, St.alloc, St.drop, killOb, part, splice, depth, resultsV, ↓reduceIte, Nat.reduceBEq, Nat.reduceAdd, Nat.reduceSub, Nat.reduceMul, Nat.reduceEqDiff, Nat.reduceLeDiff, Nat.reduceLT, effOf, effMem, effVar, effLit, effMake, effApp, lend, evLit, evNil, freeze, evField, evIndexT, orNil, evSlice, placeOf, evMap, mapOf, keyOk, evFrame, closed, fixed, sameEs, wit, Option.isSome_some, St.with, wantedD, Array.size, te, einl, inls, efr]
  generalize hr : loopAt _ _ _ _ _ _ = r; revert r
  refine loop_list l (fun pre _ => [(8, .int .i64 pre.length)]) (fun _ _ => []) (fun pre (_ : Unit) => ∀ y ∈ pre, y = 0) () (by omega) (by simp (maxSteps := 1000000) (implicitDefEqProofs := false) only [ss, sd, evOp, evPlain, evVal, evMem, St.get, sliceOf, arrayOf, fieldsOf, normOf, norm, look, evVar, evFieldAddr, nameOf, St.alloc, St.drop, killOb, part, splice, depth, resultsV, ↓reduceIte, Nat.reduceBEq, Nat.reduceAdd, Nat.reduceSub, Nat.reduceMul, Nat.reduceEqDiff, Nat.reduceLeDiff, Nat.reduceLT, effOf, effMem, effVar, effLit, effMake, effApp, lend, evLit, evNil, freeze, evField, evIndexT, orNil, evSlice, placeOf, evMap, mapOf, keyOk, evFrame, closed, fixed, sameEs, wit, Option.isSome_some, St.with, wantedD, Array.size, te, einl, inls, efr]) (fun _ h => by cases h) (fun _ hi => ?_) (fun pre a post _ hp hi g1 g2 g3 g4 => ?_)
  · have e := orE_all hi
    simp (maxSteps := 1000000) (implicitDefEqProofs := false) only [Int.lt_irrefl, e, List.length_map, Try.ntmps98, Try.results98, efc98, fc98, ss, sd, evOp, evPlain, evVal, evMem, St.get, sliceOf, arrayOf, fieldsOf, normOf, norm, look, evVar, evFieldAddr, nameOf, St.alloc, St.drop, killOb, part, splice, depth, resultsV, ↓reduceIte, Nat.reduceBEq, Nat.reduceAdd, Nat.reduceSub, Nat.reduceMul, Nat.reduceEqDiff, Nat.reduceLeDiff, Nat.reduceLT, effOf, effMem, effVar, effLit, effMake, effApp, lend, evLit, evNil, freeze, evField, evIndexT, orNil, evSlice, placeOf, evMap, mapOf, keyOk, evFrame, closed, fixed, sameEs, wit, Option.isSome_some, St.with, wantedD, Array.size, te, einl, inls, efr]
  · have e := orE_zero (x := a) hi post
    rw [← hp] at e
    by_cases h : a = 0
    · subst h
      have hi' : ∀ y ∈ pre ++ [0], y = 0 := fun y hy => by
        rcases List.mem_append.1 hy with q | q
        · exact hi y q
        · exact List.mem_singleton.1 q
      simp (maxSteps := 1000000) (implicitDefEqProofs := false) only [g1, g2, g3, g4, bne_self_eq_false, Int.natCast_nonneg, Int.toNat_natCast, List.getElem?_map, List.length_map, ss, sd, evOp, evPlain, evVal, evMem, St.get, sliceOf, arrayOf, fieldsOf, normOf, norm, look, evVar, evFieldAddr, nameOf, St.alloc, St.drop, killOb, part, splice, depth, resultsV, ↓reduceIte, Nat.reduceBEq, Nat.reduceAdd, Nat.reduceSub, Nat.reduceMul, Nat.reduceEqDiff, Nat.reduceLeDiff, Nat.reduceLT, effOf, effMem, effVar, effLit, effMake, effApp, lend, evLit, evNil, freeze, evField, evIndexT, orNil, evSlice, placeOf, evMap, mapOf, keyOk, evFrame, closed, fixed, sameEs, wit, Option.isSome_some, St.with, wantedD, Array.size, te, einl, inls, efr]
      first | exact ⟨(), rfl, hi'⟩ | exact ⟨(), hi'⟩
    · rw [if_neg h] at e
      have q : (a != 0) = true := by simpa using h
      simp (maxSteps := 1000000) (implicitDefEqProofs := false) only [g1, g2, g3, g4, q, e, Int.natCast_nonneg, Int.toNat_natCast, List.getElem?_map, List.length_map, Try.ntmps98, Try.results98, efc98, fc98, ss, sd, evOp, evPlain, evVal, evMem, St.get, sliceOf, arrayOf, fieldsOf, normOf, norm, look, evVar, evFieldAddr, nameOf, St.alloc, St.drop, killOb, part, splice, depth, resultsV, ↓reduceIte, Nat.reduceBEq, Nat.reduceAdd, Nat.reduceSub, Nat.reduceMul, Nat.reduceEqDiff, Nat.reduceLeDiff, Nat.reduceLT, effOf, effMem, effVar, effLit, effMake, effApp, lend, evLit, evNil, freeze, evField, evIndexT, orNil, evSlice, placeOf, evMap, mapOf, keyOk, evFrame, closed, fixed, sameEs, wit, Option.isSome_some, St.with, wantedD, Array.size, te, einl, inls, efr]
def cmpR (x y : Roll) : Int := orE [cmpI x.sh y.sh, cmpI y.l x.l]
theorem lt_cmp97 {x y : Roll} : ltR x y = true ↔ cmpR x y < 0 := by
  rw [ltR_iff]
  unfold cmpR
  simp only [orE]
  unfold cmpI
  repeat' split
  all_goals omega
theorem okT97 : okCode (Try.f97.body.getD .skip) = true := by decide +kernel
theorem c97 (x y : Roll) : (orcω E X0).call 97 [encRoll x, encRoll y] = some (.int .i64 (cmpR x y)) := by
  refine call_of rfl fn97 rfl ?_
  have hok := okT97
  simp only [Try.f97, Option.getD_some, okCode, Bool.and_eq_true, Bool.and_true, Bool.true_and] at hok
  have k1 := c99 x.sh y.sh
  have k2 := c99 y.l x.l
  have k3 := c98 [cmpI x.sh y.sh, cmpI y.l x.l] (by simp)
  simp only [List.map_cons, List.map_nil] at k3
  unfold cmpR
  generalize orE [cmpI x.sh y.sh, cmpI y.l x.l] = z at *
  generalize cmpI x.sh y.sh = u at *
  generalize cmpI y.l x.l = v at *
  unfold encRoll
  simp (maxSteps := 1000000) (implicitDefEqProofs := false) only [Try.ntmps97, Try.results97, efc97, evRegion_st hok, k1, k2, k3, ss, sd, evOp, evPlain, evVal, evMem, St.get, sliceOf, arrayOf, fieldsOf, normOf, norm, look, evVar, evFieldAddr, nameOf, St.alloc, St.drop, killOb, part, splice, depth, resultsV, ↓reduceIte, Nat.reduceBEq, Nat.reduceAdd, Nat.reduceSub, Nat.reduceMul, Nat.reduceEqDiff, Nat.reduceLeDiff, Nat.reduceLT, effOf, effMem, effVar, effLit, effMake, effApp, lend, evLit, evNil, freeze, evField, evIndexT, orNil, evSlice, placeOf, evMap, mapOf, keyOk, evFrame, closed, fixed, sameEs, wit, Option.isSome_some, St.with, wantedD, Array.size, te, einl, inls, efr]

theorem okT144 : okCode (Try.f144.body.getD .skip) = true := by decide +kernel
set_option maxRecDepth 20000 in
set_option maxHeartbeats 8000000 in
theorem c144 (b id : Nat) (outer : List (List V)) (objs : List (Nat × Ob)) (l : List Roll) (hn : l.length ≤ 1000000) (t app : Bool) (hl : look objs id = some { es := 3, flat := true, t := t, app := app, elems := (l).map encRoll }) (hu : upd objs id { es := 3, flat := true, t := t, app := app, elems := (l).map encRoll } = objs) :
    ∃ sl, (orcω E X0).inl b 144 [.own id 0 l.length, .int .i64 0, .int .i64 l.length, .clo 97 [] []] { slots := [], outer := outer, objs := objs } = some (.tup [], { slots := sl, outer := outer, objs := upd objs id { es := 3, flat := true, t := t, app := app, elems := (isort ltR l).map encRoll } }) := by
  refine (fun h : ∃ sl : List V, _ = some (V.tup [], ({ slots := sl, outer := outer, objs := upd objs id { es := 3, flat := true, t := t, app := app, elems := (isort ltR l).map encRoll } } : St)) => h.elim fun sl h => ⟨sl, inl_of rfl fn144 rfl h⟩) ?_
  have hok := okT144
  simp only [Try.f144, Option.getD_some, okCode, Bool.and_eq_true, Bool.and_true, Bool.true_and] at hok
  obtain ⟨hk1, hk2⟩ := hok
  have q1 : IntKind.i64.wrap (0 + 1) = 1 := by decide
  simp (maxSteps := 1000000) (implicitDefEqProofs := false) only [Try.ntmps144, Try.results144, efc144, fc144, q1, ss, sd, evOp, evPlain, evVal, evMem, St.get, sliceOf, arrayOf, fieldsOf, normOf, norm, look, evVar, evFieldAddr, nameOf, St.alloc, St.drop, killOb, part, splice, depth, resultsV, ↓reduceIte, Nat.reduceBEq, Nat.reduceAdd, Nat.reduceSub, Nat.reduceMul, Nat.reduceEqDiff, Nat.reduceLeDiff, Nat.reduceLT, effOf, effMem, effVar, effLit, effMake, effApp, lend, evLit, evNil, freeze, evField, evIndexT, orNil, evSlice, placeOf, evMap, mapOf, keyOk, evFrame, closed, fixed, sameEs, wit, Option.isSome_some, St.with, wantedD, Array.size, te, einl, inls, efr]
  generalize hr : loopAt _ _ _ _ _ _ = r; revert r
  refine loop_inv (ι := { k : Nat // k = 0 ∨ k < l.length }) (fun k => [(8, .int .i64 ((k.1 + 1 : Nat) : Int))]) (fun k => [(id, { es := 3, flat := true, t := t, app := app, elems := (isortTo ltR l k.1).map encRoll })]) (fun k => l.length - k.1) ⟨0, .inl rfl⟩ (by simp (maxSteps := 1000000) (implicitDefEqProofs := false) only [isortTo, hu, Int.natCast_zero, Int.natCast_one, Nat.zero_add, ss, sd, evOp, evPlain, evVal, evMem, St.get, sliceOf, arrayOf, fieldsOf, normOf, norm, look, evVar, evFieldAddr, nameOf, St.alloc, St.drop, killOb, part, splice, depth, resultsV, ↓reduceIte, Nat.reduceBEq, Nat.reduceAdd, Nat.reduceSub, Nat.reduceMul, Nat.reduceEqDiff, Nat.reduceLeDiff, Nat.reduceLT, effOf, effMem, effVar, effLit, effMake, effApp, lend, evLit, evNil, freeze, evField, evIndexT, orNil, evSlice, placeOf, evMap, mapOf, keyOk, evFrame, closed, fixed, sameEs, wit, Option.isSome_some, St.with, wantedD, Array.size, te, einl, inls, efr]) ?_
  rintro ⟨k, hk⟩
  dsimp only
  by_cases hlt : ((k + 1 : Nat) : Int) < l.length
  rotate_left
  · have e1 : isort ltR l = isortTo ltR l k := by
      unfold isort
      congr 1
      omega
    rw [e1]
    simp (maxSteps := 1000000) (implicitDefEqProofs := false) only [hlt, Try.ntmps144, Try.results144, efc144, fc144, ss, sd, evOp, evPlain, evVal, evMem, St.get, sliceOf, arrayOf, fieldsOf, normOf, norm, look, evVar, evFieldAddr, nameOf, St.alloc, St.drop, killOb, part, splice, depth, resultsV, ↓reduceIte, Nat.reduceBEq, Nat.reduceAdd, Nat.reduceSub, Nat.reduceMul, Nat.reduceEqDiff, Nat.reduceLeDiff, Nat.reduceLT, effOf, effMem, effVar, effLit, effMake, effApp, lend, evLit, evNil, freeze, evField, evIndexT, orNil, evSlice, placeOf, evMap, mapOf, keyOk, evFrame, closed, fixed, sameEs, wit, Option.isSome_some, St.with, wantedD, Array.size, te, einl, inls, efr]
    exact ⟨_, rfl⟩
  have w1 : IntKind.i64.wrap (((k + 1 : Nat) : Int) + 1) = ((k + 1 + 1 : Nat) : Int) := by rw [wrap_in (by omega)]; omega
  have ln := isortTo_len (lt := ltR) l k
  have hst : isortTo ltR l (k + 1) = bub ltR (k + 1) (isortTo ltR l k) := rfl
  simp (maxSteps := 1000000) (implicitDefEqProofs := false) only [hlt, look_upd_same, upd_upd, ss, sd, evOp, evPlain, evVal, evMem, St.get, sliceOf, arrayOf, fieldsOf, normOf, norm, look, evVar, evFieldAddr, nameOf, St.alloc, St.drop, killOb, part, splice, depth, resultsV, ↓reduceIte, Nat.reduceBEq, Nat.reduceAdd, Nat.reduceSub, Nat.reduceMul, Nat.reduceEqDiff, Nat.reduceLeDiff, Nat.reduceLT, effOf, effMem, effVar, effLit, effMake, effApp, lend, evLit, evNil, freeze, evField, evIndexT, orNil, evSlice, placeOf, evMap, mapOf, keyOk, evFrame, closed, fixed, sameEs, wit, Option.isSome_some, St.with, wantedD, Array.size, te, einl, inls, efr]
  generalize hr : loopAt _ _ _ _ _ _ = r; revert r
  refine loop_inv (ι := { p : Nat × List Roll // bub ltR p.1 p.2 = isortTo ltR l (k + 1) ∧ p.2.length = l.length ∧ p.1 < l.length }) (fun p => [(9, .int .i64 (p.1.1 : Nat))]) (fun p => [(id, { es := 3, flat := true, t := t, app := app, elems := (p.1.2).map encRoll })]) (fun p => p.1.1) ⟨(k + 1, isortTo ltR l k), hst.symm, ln, by dsimp only; omega⟩ (by simp (maxSteps := 1000000) (implicitDefEqProofs := false) only [upd_upd, ss, sd, evOp, evPlain, evVal, evMem, St.get, sliceOf, arrayOf, fieldsOf, normOf, norm, look, evVar, evFieldAddr, nameOf, St.alloc, St.drop, killOb, part, splice, depth, resultsV, ↓reduceIte, Nat.reduceBEq, Nat.reduceAdd, Nat.reduceSub, Nat.reduceMul, Nat.reduceEqDiff, Nat.reduceLeDiff, Nat.reduceLT, effOf, effMem, effVar, effLit, effMake, effApp, lend, evLit, evNil, freeze, evField, evIndexT, orNil, evSlice, placeOf, evMap, mapOf, keyOk, evFrame, closed, fixed, sameEs, wit, Option.isSome_some, St.with, wantedD, Array.size, te, einl, inls, efr]) ?_
  rintro ⟨⟨j, m⟩, hb, hlm, hj⟩
  dsimp only at hb hlm hj ⊢
  cases j with
  | zero =>
    have e1 : m = isortTo ltR l (k + 1) := hb
    subst e1
    simp (maxSteps := 1000000) (implicitDefEqProofs := false) only [Int.natCast_zero, Int.lt_irrefl, look_upd_same, upd_upd, evRegion_st hk1, w1, ss, sd, evOp, evPlain, evVal, evMem, St.get, sliceOf, arrayOf, fieldsOf, normOf, norm, look, evVar, evFieldAddr, nameOf, St.alloc, St.drop, killOb, part, splice, depth, resultsV, ↓reduceIte, Nat.reduceBEq, Nat.reduceAdd, Nat.reduceSub, Nat.reduceMul, Nat.reduceEqDiff, Nat.reduceLeDiff, Nat.reduceLT, effOf, effMem, effVar, effLit, effMake, effApp, lend, evLit, evNil, freeze, evField, evIndexT, orNil, evSlice, placeOf, evMap, mapOf, keyOk, evFrame, closed, fixed, sameEs, wit, Option.isSome_some, St.with, wantedD, Array.size, te, einl, inls, efr]
    exact ⟨⟨k + 1, by omega⟩, rfl, by dsimp only; omega⟩
  | succ j =>
    have gx : m[j + 1]? = some (m[j + 1]'(by omega)) := List.getElem?_eq_getElem _
    have gy : m[j]? = some (m[j]'(by omega)) := List.getElem?_eq_getElem _
    generalize m[j + 1]'(by omega) = x at *
    generalize m[j]'(by omega) = y at *
    have k1 := c97 x y
    have p0 : (0 : Int) < ((j + 1 : Nat) : Int) := by omega
    have w2 : IntKind.i64.wrap (((j + 1 : Nat) : Int) - 1) = (j : Nat) := by rw [wrap_in (by omega)]; omega
    have u1 : ((j + 1 : Nat) : Int) < l.length := by omega
    have u2 : (j : Int) < l.length := by omega
    have ltc := lt_cmp97 (x := x) (y := y)
    have eset : ((m.map encRoll).set (j + 1) (encRoll y)).set j (encRoll x) = ((m.set (j + 1) y).set j x).map encRoll := by rw [List.map_set, List.map_set]
    have eget : ((m.map encRoll).set (j + 1) (encRoll y))[j]? = some (encRoll y) := by
      rw [List.getElem?_set_ne (by omega), List.getElem?_map, gy]; rfl
    by_cases hxy : cmpR x y < 0
    rotate_left
    · have e1 : m = isortTo ltR l (k + 1) := by rw [← hb, bub_stop gx gy (by rw [ltc]; exact hxy)]
      generalize cmpR x y = cxy at *
      subst e1
      unfold encRoll at k1
      simp (maxSteps := 1000000) (implicitDefEqProofs := false) only [p0, w2, u1, u2, gx, gy, k1, hxy, encRoll, look_upd_same, upd_upd, evRegion_st hk1, w1, Int.natCast_nonneg, Int.toNat_natCast, List.getElem?_map, ss, sd, evOp, evPlain, evVal, evMem, St.get, sliceOf, arrayOf, fieldsOf, normOf, norm, look, evVar, evFieldAddr, nameOf, St.alloc, St.drop, killOb, part, splice, depth, resultsV, ↓reduceIte, Nat.reduceBEq, Nat.reduceAdd, Nat.reduceSub, Nat.reduceMul, Nat.reduceEqDiff, Nat.reduceLeDiff, Nat.reduceLT, effOf, effMem, effVar, effLit, effMake, effApp, lend, evLit, evNil, freeze, evField, evIndexT, orNil, evSlice, placeOf, evMap, mapOf, keyOk, evFrame, closed, fixed, sameEs, wit, Option.isSome_some, St.with, wantedD, Array.size, te, einl, inls, efr]
      exact ⟨⟨k + 1, by omega⟩, rfl, by dsimp only; omega⟩
    · have e1 := bub_step gx gy (ltc.2 hxy)
      generalize cmpR x y = cxy at *
      generalize hM : (m.set (j + 1) y).set j x = m2 at *
      have hlm2 : m2.length = l.length := by rw [← hM]; simp [hlm]
      unfold encRoll at k1
      simp only [encRoll] at eset eget
      simp (maxSteps := 1000000) (implicitDefEqProofs := false) only [p0, w2, u1, u2, gx, gy, eset, eget, k1, hxy, encRoll, look_upd_same, upd_upd, evRegion_st hk1, evRegion_st hk2, w1, Int.natCast_nonneg, Int.toNat_natCast, List.getElem?_map, ss, sd, evOp, evPlain, evVal, evMem, St.get, sliceOf, arrayOf, fieldsOf, normOf, norm, look, evVar, evFieldAddr, nameOf, St.alloc, St.drop, killOb, part, splice, depth, resultsV, ↓reduceIte, Nat.reduceBEq, Nat.reduceAdd, Nat.reduceSub, Nat.reduceMul, Nat.reduceEqDiff, Nat.reduceLeDiff, Nat.reduceLT, effOf, effMem, effVar, effLit, effMake, effApp, lend, evLit, evNil, freeze, evField, evIndexT, orNil, evSlice, placeOf, evMap, mapOf, keyOk, evFrame, closed, fixed, sameEs, wit, Option.isSome_some, St.with, wantedD, Array.size, te, einl, inls, efr]
      exact ⟨⟨(j, m2), by rw [← hb, e1], hlm2, by dsimp only; omega⟩, rfl, by dsimp only; omega⟩

set_option maxRecDepth 20000 in
set_option maxHeartbeats 8000000 in
theorem c128 (b id : Nat) (outer : List (List V)) (objs : List (Nat × Ob)) (l : List Roll) (hn : l.length ≤ 12) (lim : Int) (t app : Bool) (hl : look objs id = some { es := 3, flat := true, t := t, app := app, elems := (l).map encRoll }) (hu : upd objs id { es := 3, flat := true, t := t, app := app, elems := (l).map encRoll } = objs) :
    ∃ sl, (orcω E X0).inl b 128 [.own id 0 l.length, .int .i64 0, .int .i64 l.length, .int .i64 lim, .clo 97 [] []] { slots := [], outer := outer, objs := objs } = some (.tup [], { slots := sl, outer := outer, objs := upd objs id { es := 3, flat := true, t := t, app := app, elems := (isort ltR l).map encRoll } }) := by
  refine (fun h : ∃ sl : List V, _ = some (V.tup [], ({ slots := sl, outer := outer, objs := upd objs id { es := 3, flat := true, t := t, app := app, elems := (isort ltR l).map encRoll } } : St)) => h.elim fun sl h => ⟨sl, inl_of rfl fn128 rfl h⟩) ?_
  have k1 := fun b outer => c144 b id outer objs l (by omega) t app hl hu
  obtain ⟨f, k2⟩ := Classical.skolem.1 fun b => Classical.skolem.1 (k1 b)
  have w1 : IntKind.i64.wrap ((l.length : Int) - 0) = l.length := by rw [wrap_in (by omega)]; omega
  have h12 : (l.length : Int) ≤ 12 := by omega
  simp (maxSteps := 1000000) (implicitDefEqProofs := false) only [Try.ntmps128, Try.results128, efc128, fc128, ss, sd, evOp, evPlain, evVal, evMem, St.get, sliceOf, arrayOf, fieldsOf, normOf, norm, look, evVar, evFieldAddr, nameOf, St.alloc, St.drop, killOb, part, splice, depth, resultsV, ↓reduceIte, Nat.reduceBEq, Nat.reduceAdd, Nat.reduceSub, Nat.reduceMul, Nat.reduceEqDiff, Nat.reduceLeDiff, Nat.reduceLT, effOf, effMem, effVar, effLit, effMake, effApp, lend, evLit, evNil, freeze, evField, evIndexT, orNil, evSlice, placeOf, evMap, mapOf, keyOk, evFrame, closed, fixed, sameEs, wit, Option.isSome_some, St.with, wantedD, Array.size, te, einl, inls, efr]
  generalize hr : loopAt _ _ _ _ _ _ = r; revert r
  refine loop_inv (ι := Unit) (fun _ => []) (fun _ => []) (fun _ => 0) () (by simp (maxSteps := 1000000) (implicitDefEqProofs := false) only [ss, sd, evOp, evPlain, evVal, evMem, St.get, sliceOf, arrayOf, fieldsOf, normOf, norm, look, evVar, evFieldAddr, nameOf, St.alloc, St.drop, killOb, part, splice, depth, resultsV, ↓reduceIte, Nat.reduceBEq, Nat.reduceAdd, Nat.reduceSub, Nat.reduceMul, Nat.reduceEqDiff, Nat.reduceLeDiff, Nat.reduceLT, effOf, effMem, effVar, effLit, effMake, effApp, lend, evLit, evNil, freeze, evField, evIndexT, orNil, evSlice, placeOf, evMap, mapOf, keyOk, evFrame, closed, fixed, sameEs, wit, Option.isSome_some, St.with, wantedD, Array.size, te, einl, inls, efr]) ?_
  intro _
  simp (maxSteps := 1000000) (implicitDefEqProofs := false) only [w1, h12, k2, Try.ntmps128, Try.results128, efc128, fc128, ss, sd, evOp, evPlain, evVal, evMem, St.get, sliceOf, arrayOf, fieldsOf, normOf, norm, look, evVar, evFieldAddr, nameOf, St.alloc, St.drop, killOb, part, splice, depth, resultsV, ↓reduceIte, Nat.reduceBEq, Nat.reduceAdd, Nat.reduceSub, Nat.reduceMul, Nat.reduceEqDiff, Nat.reduceLeDiff, Nat.reduceLT, effOf, effMem, effVar, effLit, effMake, effApp, lend, evLit, evNil, freeze, evField, evIndexT, orNil, evSlice, placeOf, evMap, mapOf, keyOk, evFrame, closed, fixed, sameEs, wit, Option.isSome_some, St.with, wantedD, Array.size, te, einl, inls, efr]
  exact ⟨_, rfl⟩

set_option maxRecDepth 20000 in
set_option maxHeartbeats 8000000 in
theorem c96 (b id : Nat) (outer : List (List V)) (objs : List (Nat × Ob)) (l : List Roll) (hn : l.length ≤ 12) (t app : Bool) (hl : look objs id = some { es := 3, flat := true, t := t, app := app, elems := (l).map encRoll }) (hu : upd objs id { es := 3, flat := true, t := t, app := app, elems := (l).map encRoll } = objs) :
    ∃ sl, (orcω E X0).inl b 96 [.own id 0 l.length, .clo 97 [] []] { slots := [], outer := outer, objs := objs } = some (.tup [], { slots := sl, outer := outer, objs := upd objs id { es := 3, flat := true, t := t, app := app, elems := (isort ltR l).map encRoll } }) := by
  refine (fun h : ∃ sl : List V, _ = some (V.tup [], ({ slots := sl, outer := outer, objs := upd objs id { es := 3, flat := true, t := t, app := app, elems := (isort ltR l).map encRoll } } : St)) => h.elim fun sl h => ⟨sl, inl_of rfl fn96 rfl h⟩) ?_
  have k0 := c129 l.length hn
  have k1 := fun b outer => c128 b id outer objs l hn (bitsOf l.length) t app hl hu
  obtain ⟨f, k2⟩ := Classical.skolem.1 fun b => Classical.skolem.1 (k1 b)
  have w1 : IntKind.u64.wrap (l.length : Int) = l.length := IntWalk.u64_in _ (by omega)
  simp (maxSteps := 1000000) (implicitDefEqProofs := false) only [Try.ntmps96, Try.results96, efc96, w1, k0, k2, ss, sd, evOp, evPlain, evVal, evMem, St.get, sliceOf, arrayOf, fieldsOf, normOf, norm, look, evVar, evFieldAddr, nameOf, St.alloc, St.drop, killOb, part, splice, depth, resultsV, ↓reduceIte, Nat.reduceBEq, Nat.reduceAdd, Nat.reduceSub, Nat.reduceMul, Nat.reduceEqDiff, Nat.reduceLeDiff, Nat.reduceLT, effOf, effMem, effVar, effLit, effMake, effApp, lend, evLit, evNil, freeze, evField, evIndexT, orNil, evSlice, placeOf, evMap, mapOf, keyOk, evFrame, closed, fixed, sameEs, wit, Option.isSome_some, St.with, wantedD, Array.size, te, einl, inls, efr]
  exact ⟨_, rfl⟩


end Go.AM.D
end

section
/-
The lower bound: LowerBound of the program.
-/
namespace Go.AM.D
open Go Go.AM Go.Proofs

theorem sized_rolls (l : List Roll) : sized 3 (l.map encRoll) = true := sized_map (f := encRoll) (n := 3) (fun _ => ⟨_, rfl, rfl⟩) l
theorem c95 (l : List Roll) (hl : l.length ≤ 1000) : (orcω E X0).call 95 [.sl false (l.map encRoll)] = some (.sl true (l.map encRoll)) := by
  cases l with
  | nil =>
    refine (orcω_le 0).call _ _ _ ?_
    simp only [orc, X0, cloneAt, if_true, List.map_nil]
    rfl
  | cons c l =>
    have hroom : roomy ((c :: l).map encRoll).length 24 = true := by simp [roomy] at hl ⊢; omega
    have hbig : ((c :: l).map encRoll).length ≤ 4294967296 := by simp at hl ⊢; omega
    have z1 := sized_rolls (c :: l)
    have n1 : nilTest (.sl false ((c :: l).map encRoll)) = some false := rfl
    have r1 : refFreeL ((c :: l).map encRoll) = true := refFreeL_map (f := encRoll) (fun _ => rfl) _
    have b1 : bareL ((c :: l).map encRoll) = true := bareL_map (f := encRoll) (fun _ => rfl) _
    refine call_of rfl fn95 rfl ?_
    generalize (c :: l).map encRoll = vs at *
    have t1 : vs.take vs.length = vs := List.take_length
    simp (maxSteps := 1000000) (implicitDefEqProofs := false) only [Try.ntmps95, Try.results95, efc95, fc95, Option.map_some, hroom, hbig, z1, n1, r1, b1, t1, ss, sd, evOp, evPlain, evVal, evMem, St.get, sliceOf, arrayOf, fieldsOf, normOf, norm, look, evVar, evFieldAddr, nameOf, St.alloc, St.drop, killOb, part, splice, depth, resultsV, ↓reduceIte, Nat.reduceBEq, Nat.reduceAdd, Nat.reduceSub, Nat.reduceMul, Nat.reduceEqDiff, Nat.reduceLeDiff, Nat.reduceLT, effOf, effMem, effVar, effLit, effMake, effApp, lend, evLit, evNil, freeze, evField, evIndexT, orNil, evSlice, placeOf, evMap, mapOf, keyOk, evFrame, closed, fixed, sameEs, wit, Option.isSome_some, St.with, wantedD, Array.size, te, einl, inls, efr]

def lbV (j : Job) : V :=
  if ¬ jobE j = 0 then .tup [.int .i64 0, .bool false, .int .i64 (jobE j)]
  else if lenM j.ss = 0 then .tup [.int .i64 0, .bool true, .int .i64 0]
  else .tup [.int .i64 (lbTo (lenM j.ss) (isort ltR j.rs)).best, .bool (decide (0 < (lbTo (lenM j.ss) (isort ltR j.rs)).best)), .int .i64 0]
theorem okT46 : okCode (Try.f46.body.getD .skip) = true := by decide +kernel
set_option maxRecDepth 20000 in
set_option maxHeartbeats 16000000 in
theorem c46 (j : Job) : (orcω E X0).call 46 [encJob j] = some (lbV j) := by
  refine call_of rfl fn46 rfl ?_
  have hok := okT46
  simp only [Try.f46, Option.getD_some, okCode, Bool.and_eq_true, Bool.and_true, Bool.true_and] at hok
  have k1 := c50 j
  unfold lbV
  by_cases a2 : jobE j = 0
  rotate_left
  · have q2 : (jobE j != 0) = true := by simpa using a2
    rw [if_pos a2]
    generalize jobE j = e at *
    unfold encJob at *
    simp (maxSteps := 1000000) (implicitDefEqProofs := false) only [Try.ntmps46, Try.results46, efc46, fc46, k1, q2, ss, sd, evOp, evPlain, evVal, evMem, St.get, sliceOf, arrayOf, fieldsOf, normOf, norm, look, evVar, evFieldAddr, nameOf, St.alloc, St.drop, killOb, part, splice, depth, resultsV, ↓reduceIte, Nat.reduceBEq, Nat.reduceAdd, Nat.reduceSub, Nat.reduceMul, Nat.reduceEqDiff, Nat.reduceLeDiff, Nat.reduceLT, effOf, effMem, effVar, effLit, effMake, effApp, lend, evLit, evNil, freeze, evField, evIndexT, orNil, evSlice, placeOf, evMap, mapOf, keyOk, evFrame, closed, fixed, sameEs, wit, Option.isSome_some, St.with, wantedD, Array.size, te, einl, inls, efr]
  rw [if_neg (fun h => h a2)]
  obtain ⟨hj, hjo⟩ := jobE_zero a2
  rw [a2] at k1
  have h6 := hj.nss
  have h5 := hj.nrs
  have hst : ∀ s ∈ j.ss, 0 ≤ s.a ∧ s.a ≤ s.b ∧ s.b ≤ 60 := fun s hs => by have := hj.ss s hs; omega
  have k2 := c80 j.ss hst (by omega)
  have hneed := lenM_in hst
  generalize lenM j.ss = need at *
  by_cases a3 : need = 0
  · rw [if_pos a3]
    subst a3
    unfold encJob at *
    simp (maxSteps := 1000000) (implicitDefEqProofs := false) only [Try.ntmps46, Try.results46, efc46, fc46, k1, k2, bne_self_eq_false, beq_self_eq_true, ss, sd, evOp, evPlain, evVal, evMem, St.get, sliceOf, arrayOf, fieldsOf, normOf, norm, look, evVar, evFieldAddr, nameOf, St.alloc, St.drop, killOb, part, splice, depth, resultsV, ↓reduceIte, Nat.reduceBEq, Nat.reduceAdd, Nat.reduceSub, Nat.reduceMul, Nat.reduceEqDiff, Nat.reduceLeDiff, Nat.reduceLT, effOf, effMem, effVar, effLit, effMake, effApp, lend, evLit, evNil, freeze, evField, evIndexT, orNil, evSlice, placeOf, evMap, mapOf, keyOk, evFrame, closed, fixed, sameEs, wit, Option.isSome_some, St.with, wantedD, Array.size, te, einl, inls, efr]
  rw [if_neg a3]
  have q3 : (need == 0) = false := by simpa using a3
  have k3 := c95 j.rs (by omega)
  have k4 := fun b outer => c96 b 25 outer [(1, { es := 3, flat := true, t := false, app := false, elems := [.agg [.sl false (j.ss.map encStrip), .sl false (j.rs.map encRoll), .int .i64 j.rep]] }), (25, { es := 3, flat := true, t := true, app := false, elems := j.rs.map encRoll })] j.rs (by omega) true false rfl rfl
  obtain ⟨f3, k4⟩ := Classical.skolem.1 fun b => Classical.skolem.1 (k4 b)
  have ln := isort_len (lt := ltR) j.rs
  have hL : ∀ r ∈ isort ltR j.rs, 1 ≤ r.l ∧ r.l ≤ 300 := fun r hr => (hj.rs r ((isort_perm (lt := ltR) j.rs).mem_iff.1 hr)).1
  generalize isort ltR j.rs = L at *
  have r1 : refFreeL (j.rs.map encRoll) = true := refFreeL_map (f := encRoll) (fun _ => rfl) _
  have p1 : plainL (j.rs.map encRoll) = true := plainL_map (f := encRoll) (fun _ => rfl) _
  have z1 := sized_rolls j.rs
  unfold encJob at k1 ⊢
  simp (maxSteps := 1000000) (implicitDefEqProofs := false) only [Try.ntmps46, Try.results46, efc46, fc46, k1, k2, k3, k4, r1, p1, z1, q3, bne_self_eq_false, List.length_map, ss, sd, evOp, evPlain, evVal, evMem, St.get, sliceOf, arrayOf, fieldsOf, normOf, norm, look, evVar, evFieldAddr, nameOf, St.alloc, St.drop, killOb, part, splice, depth, resultsV, ↓reduceIte, Nat.reduceBEq, Nat.reduceAdd, Nat.reduceSub, Nat.reduceMul, Nat.reduceEqDiff, Nat.reduceLeDiff, Nat.reduceLT, effOf, effMem, effVar, effLit, effMake, effApp, lend, evLit, evNil, freeze, evField, evIndexT, orNil, evSlice, placeOf, evMap, mapOf, keyOk, evFrame, closed, fixed, sameEs, wit, Option.isSome_some, St.with, wantedD, Array.size, te, einl, inls, efr]
  generalize hr : loopAt _ _ _ _ _ _ = r; revert r
  refine loop_list L (fun pre _ => [(8, .int .i64 (lbTo need pre).best), (9, .int .i64 (lbTo need pre).count), (10, .int .i64 (lbTo need pre).sum), (30, .int .i64 pre.length)]) (fun _ _ => []) (fun pre (_ : Unit) => (0 ≤ (lbTo need pre).count ∧ (lbTo need pre).count ≤ pre.length) ∧ (0 ≤ (lbTo need pre).sum ∧ (lbTo need pre).sum ≤ 300 * pre.length) ∧ 0 ≤ (lbTo need pre).best) () (by omega) (by simp (maxSteps := 1000000) (implicitDefEqProofs := false) only [lbTo, lbGo, ss, sd, evOp, evPlain, evVal, evMem, St.get, sliceOf, arrayOf, fieldsOf, normOf, norm, look, evVar, evFieldAddr, nameOf, St.alloc, St.drop, killOb, part, splice, depth, resultsV, ↓reduceIte, Nat.reduceBEq, Nat.reduceAdd, Nat.reduceSub, Nat.reduceMul, Nat.reduceEqDiff, Nat.reduceLeDiff, Nat.reduceLT, effOf, effMem, effVar, effLit, effMake, effApp, lend, evLit, evNil, freeze, evField, evIndexT, orNil, evSlice, placeOf, evMap, mapOf, keyOk, evFrame, closed, fixed, sameEs, wit, Option.isSome_some, St.with, wantedD, Array.size, te, einl, inls, efr]) (show ((0 : Int) ≤ 0 ∧ (0 : Int) ≤ 0) ∧ ((0 : Int) ≤ 0 ∧ (0 : Int) ≤ 300 * 0) ∧ (0 : Int) ≤ 0 by decide) (fun _ hi => ?_) (fun pre x post _ hp hi g1 g2 g3 g4 => ?_)
  · have ll : (L.length : Int) = j.rs.length := by omega
    generalize lbTo need L = s at *
    simp (maxSteps := 1000000) (implicitDefEqProofs := false) only [ll, Int.lt_irrefl, Try.ntmps46, Try.results46, efc46, fc46, ss, sd, evOp, evPlain, evVal, evMem, St.get, sliceOf, arrayOf, fieldsOf, normOf, norm, look, evVar, evFieldAddr, nameOf, St.alloc, St.drop, killOb, part, splice, depth, resultsV, ↓reduceIte, Nat.reduceBEq, Nat.reduceAdd, Nat.reduceSub, Nat.reduceMul, Nat.reduceEqDiff, Nat.reduceLeDiff, Nat.reduceLT, effOf, effMem, effVar, effLit, effMake, effApp, lend, evLit, evNil, freeze, evField, evIndexT, orNil, evSlice, placeOf, evMap, mapOf, keyOk, evFrame, closed, fixed, sameEs, wit, Option.isSome_some, St.with, wantedD, Array.size, te, einl, inls, efr]
  · have hx := hL x (by rw [hp]; simp)
    have hst := lbTo_snoc need pre x
    have hbt : (pre ++ [x]).length = pre.length + 1 := by simp
    have hL0 := ln
    rw [ln] at g1
    have ge1 : pre.length < 5 := by omega
    generalize lbTo need (pre ++ [x]) = s' at *
    generalize lbTo need pre = s at *
    rw [hbt]
    rw [hbt] at g4
    have g2' : pre.length < L.length := g2
    have gj : ((pre.length : Nat) : Int) < j.rs.length := g1
    rw [← hL0] at g1
    obtain ⟨b, c, m⟩ := s
    obtain ⟨xl, xp, xs⟩ := x
    unfold lbStep at hst
    rcases List.eq_nil_or_concat pre with rfl | ⟨p', z, hpz⟩
    · have e1 : lbCount (lastS []) ⟨b, c, m⟩ ⟨xl, xp, xs⟩ = c + 1 := rfl
      have e2 : lbSum (lastS []) ⟨b, c, m⟩ ⟨xl, xp, xs⟩ = m + xl := rfl
      rw [e1, e2] at hst
      simp only [List.length_nil, Nat.zero_add, Int.natCast_zero] at *
      try dsimp only at hi
      try dsimp only at hx
      try dsimp only at hst
      have w1 : IntKind.i64.wrap (c + 1) = c + 1 := wrap_in (by omega)
      have w2 : IntKind.i64.wrap (m + xl) = m + xl := wrap_in (by omega)
      have nI : 0 ≤ c + 1 ∧ c + 1 ≤ 6 := by omega
      by_cases c1 : need ≤ m + xl
      · by_cases c2 : b = 0
        · rw [if_pos ⟨c1, .inl c2⟩] at hst
          subst hst
          have q5 : (b == 0) = true := by simpa using c2
          have hI' : (0 ≤ c + 1 ∧ c + 1 ≤ ((1 : Nat) : Int)) ∧ (0 ≤ m + xl ∧ m + xl ≤ 300 * ((1 : Nat) : Int)) ∧ 0 ≤ c + 1 := by omega
          simp (maxSteps := 1000000) (implicitDefEqProofs := false) only [gj, Int.le_refl, Int.toNat_zero, g1, g2, g3, g4, evRegion_st hok, w1, w2, encRoll, Int.lt_irrefl, List.length_nil, Int.natCast_zero, Int.natCast_nonneg, Int.toNat_natCast, List.getElem?_map, List.length_map, c1, q5, ss, sd, evOp, evPlain, evVal, evMem, St.get, sliceOf, arrayOf, fieldsOf, normOf, norm, look, evVar, evFieldAddr, nameOf, St.alloc, St.drop, killOb, part, splice, depth, resultsV, ↓reduceIte, Nat.reduceBEq, Nat.reduceAdd, Nat.reduceSub, Nat.reduceMul, Nat.reduceEqDiff, Nat.reduceLeDiff, Nat.reduceLT, effOf, effMem, effVar, effLit, effMake, effApp, lend, evLit, evNil, freeze, evField, evIndexT, orNil, evSlice, placeOf, evMap, mapOf, keyOk, evFrame, closed, fixed, sameEs, wit, Option.isSome_some, St.with, wantedD, Array.size, te, einl, inls, efr]
          first | exact ⟨(), rfl, hI'⟩ | exact ⟨(), hI'⟩
        · have q5 : (b == 0) = false := by simpa using c2
          by_cases c3 : c + 1 < b
          · rw [if_pos ⟨c1, .inr c3⟩] at hst
            subst hst
            have hI' : (0 ≤ c + 1 ∧ c + 1 ≤ ((1 : Nat) : Int)) ∧ (0 ≤ m + xl ∧ m + xl ≤ 300 * ((1 : Nat) : Int)) ∧ 0 ≤ c + 1 := by omega
            simp (maxSteps := 1000000) (implicitDefEqProofs := false) only [gj, Int.le_refl, Int.toNat_zero, g1, g2, g3, g4, evRegion_st hok, w1, w2, encRoll, Int.lt_irrefl, List.length_nil, Int.natCast_zero, Int.natCast_nonneg, Int.toNat_natCast, List.getElem?_map, List.length_map, c1, q5, c3, ss, sd, evOp, evPlain, evVal, evMem, St.get, sliceOf, arrayOf, fieldsOf, normOf, norm, look, evVar, evFieldAddr, nameOf, St.alloc, St.drop, killOb, part, splice, depth, resultsV, ↓reduceIte, Nat.reduceBEq, Nat.reduceAdd, Nat.reduceSub, Nat.reduceMul, Nat.reduceEqDiff, Nat.reduceLeDiff, Nat.reduceLT, effOf, effMem, effVar, effLit, effMake, effApp, lend, evLit, evNil, freeze, evField, evIndexT, orNil, evSlice, placeOf, evMap, mapOf, keyOk, evFrame, closed, fixed, sameEs, wit, Option.isSome_some, St.with, wantedD, Array.size, te, einl, inls, efr]
            first | exact ⟨(), rfl, hI'⟩ | exact ⟨(), hI'⟩
          · rw [if_neg (fun h => h.2.elim c2 c3)] at hst
            subst hst
            have hI' : (0 ≤ c + 1 ∧ c + 1 ≤ ((1 : Nat) : Int)) ∧ (0 ≤ m + xl ∧ m + xl ≤ 300 * ((1 : Nat) : Int)) ∧ 0 ≤ b := by omega
            simp (maxSteps := 1000000) (implicitDefEqProofs := false) only [gj, Int.le_refl, Int.toNat_zero, g1, g2, g3, g4, evRegion_st hok, w1, w2, encRoll, Int.lt_irrefl, List.length_nil, Int.natCast_zero, Int.natCast_nonneg, Int.toNat_natCast, List.getElem?_map, List.length_map, c1, q5, c3, ss, sd, evOp, evPlain, evVal, evMem, St.get, sliceOf, arrayOf, fieldsOf, normOf, norm, look, evVar, evFieldAddr, nameOf, St.alloc, St.drop, killOb, part, splice, depth, resultsV, ↓reduceIte, Nat.reduceBEq, Nat.reduceAdd, Nat.reduceSub, Nat.reduceMul, Nat.reduceEqDiff, Nat.reduceLeDiff, Nat.reduceLT, effOf, effMem, effVar, effLit, effMake, effApp, lend, evLit, evNil, freeze, evField, evIndexT, orNil, evSlice, placeOf, evMap, mapOf, keyOk, evFrame, closed, fixed, sameEs, wit, Option.isSome_some, St.with, wantedD, Array.size, te, einl, inls, efr]
            first | exact ⟨(), rfl, hI'⟩ | exact ⟨(), hI'⟩
      · rw [if_neg (fun h => c1 h.1)] at hst
        subst hst
        have hI' : (0 ≤ c + 1 ∧ c + 1 ≤ ((1 : Nat) : Int)) ∧ (0 ≤ m + xl ∧ m + xl ≤ 300 * ((1 : Nat) : Int)) ∧ 0 ≤ b := by omega
        simp (maxSteps := 1000000) (implicitDefEqProofs := false) only [gj, Int.le_refl, Int.toNat_zero, g1, g2, g3, g4, evRegion_st hok, w1, w2, encRoll, Int.lt_irrefl, List.length_nil, Int.natCast_zero, Int.natCast_nonneg, Int.toNat_natCast, List.getElem?_map, List.length_map, c1, ss, sd, evOp, evPlain, evVal, evMem, St.get, sliceOf, arrayOf, fieldsOf, normOf, norm, look, evVar, evFieldAddr, nameOf, St.alloc, St.drop, killOb, part, splice, depth, resultsV, ↓reduceIte, Nat.reduceBEq, Nat.reduceAdd, Nat.reduceSub, Nat.reduceMul, Nat.reduceEqDiff, Nat.reduceLeDiff, Nat.reduceLT, effOf, effMem, effVar, effLit, effMake, effApp, lend, evLit, evNil, freeze, evField, evIndexT, orNil, evSlice, placeOf, evMap, mapOf, keyOk, evFrame, closed, fixed, sameEs, wit, Option.isSome_some, St.with, wantedD, Array.size, te, einl, inls, efr]
        first | exact ⟨(), rfl, hI'⟩ | exact ⟨(), hI'⟩
    · rw [List.concat_eq_append] at hpz
      subst hpz
      have pl : (p' ++ [z]).length = p'.length + 1 := by simp
      have gz : L[p'.length]? = some z := by
        rw [hp, List.append_assoc, List.getElem?_append_right (Nat.le_refl _), Nat.sub_self]
        rfl
      have w0 : IntKind.i64.wrap (((p' ++ [z]).length : Int) - 1) = (p'.length : Nat) := by rw [pl, wrap_in (by omega)]; omega
      have gp : (0 : Int) < ((p' ++ [z]).length : Nat) := by rw [pl]; omega
      have gl : (p'.length : Int) < L.length := by rw [pl] at g2'; omega
      have glj : (p'.length : Int) < j.rs.length := by omega
      have ls : lastS (p' ++ [z]) = some z.sh := lastS_snoc p' z
      rw [ls] at hst
      obtain ⟨zl, zp, zs⟩ := z
      generalize hPL : (p' ++ [(⟨zl, zp, zs⟩ : Roll)]).length = P at *
      try dsimp only at hi
      try dsimp only at hx
      try dsimp only at hst
      by_cases hsh : xs = zs
      · have e1 : lbCount (some zs) ⟨b, c, m⟩ ⟨xl, xp, xs⟩ = c + 1 := by unfold lbCount; dsimp only; rw [if_pos hsh]
        have e2 : lbSum (some zs) ⟨b, c, m⟩ ⟨xl, xp, xs⟩ = m + xl := by unfold lbSum; dsimp only; rw [if_pos hsh]
        rw [e1, e2] at hst
        try dsimp only at hst
        have q6 : (xs != zs) = false := by simpa using hsh
        have w1 : IntKind.i64.wrap (c + 1) = c + 1 := wrap_in (by omega)
        have w2 : IntKind.i64.wrap (m + xl) = m + xl := wrap_in (by omega)
        have nI : 0 ≤ c + 1 ∧ c + 1 ≤ 6 := by omega
        by_cases c1 : need ≤ m + xl
        · by_cases c2 : b = 0
          · rw [if_pos ⟨c1, .inl c2⟩] at hst
            subst hst
            have q5 : (b == 0) = true := by simpa using c2
            have hI' : (0 ≤ c + 1 ∧ c + 1 ≤ ((P + 1 : Nat) : Int)) ∧ (0 ≤ m + xl ∧ m + xl ≤ 300 * ((P + 1 : Nat) : Int)) ∧ 0 ≤ c + 1 := by omega
            simp (maxSteps := 1000000) (implicitDefEqProofs := false) only [gj, Int.le_refl, Int.toNat_zero, g1, g2, g3, g4, evRegion_st hok, w1, w2, gz, w0, gp, gl, glj, q6, encRoll, Int.lt_irrefl, List.length_nil, Int.natCast_zero, Int.natCast_nonneg, Int.toNat_natCast, List.getElem?_map, List.length_map, c1, q5, ss, sd, evOp, evPlain, evVal, evMem, St.get, sliceOf, arrayOf, fieldsOf, normOf, norm, look, evVar, evFieldAddr, nameOf, St.alloc, St.drop, killOb, part, splice, depth, resultsV, ↓reduceIte, Nat.reduceBEq, Nat.reduceAdd, Nat.reduceSub, Nat.reduceMul, Nat.reduceEqDiff, Nat.reduceLeDiff, Nat.reduceLT, effOf, effMem, effVar, effLit, effMake, effApp, lend, evLit, evNil, freeze, evField, evIndexT, orNil, evSlice, placeOf, evMap, mapOf, keyOk, evFrame, closed, fixed, sameEs, wit, Option.isSome_some, St.with, wantedD, Array.size, te, einl, inls, efr]
            first | exact ⟨(), rfl, hI'⟩ | exact ⟨(), hI'⟩
          · have q5 : (b == 0) = false := by simpa using c2
            by_cases c3 : c + 1 < b
            · rw [if_pos ⟨c1, .inr c3⟩] at hst
              subst hst
              have hI' : (0 ≤ c + 1 ∧ c + 1 ≤ ((P + 1 : Nat) : Int)) ∧ (0 ≤ m + xl ∧ m + xl ≤ 300 * ((P + 1 : Nat) : Int)) ∧ 0 ≤ c + 1 := by omega
              simp (maxSteps := 1000000) (implicitDefEqProofs := false) only [gj, Int.le_refl, Int.toNat_zero, g1, g2, g3, g4, evRegion_st hok, w1, w2, gz, w0, gp, gl, glj, q6, encRoll, Int.lt_irrefl, List.length_nil, Int.natCast_zero, Int.natCast_nonneg, Int.toNat_natCast, List.getElem?_map, List.length_map, c1, q5, c3, ss, sd, evOp, evPlain, evVal, evMem, St.get, sliceOf, arrayOf, fieldsOf, normOf, norm, look, evVar, evFieldAddr, nameOf, St.alloc, St.drop, killOb, part, splice, depth, resultsV, ↓reduceIte, Nat.reduceBEq, Nat.reduceAdd, Nat.reduceSub, Nat.reduceMul, Nat.reduceEqDiff, Nat.reduceLeDiff, Nat.reduceLT, effOf, effMem, effVar, effLit, effMake, effApp, lend, evLit, evNil, freeze, evField, evIndexT, orNil, evSlice, placeOf, evMap, mapOf, keyOk, evFrame, closed, fixed, sameEs, wit, Option.isSome_some, St.with, wantedD, Array.size, te, einl, inls, efr]
              first | exact ⟨(), rfl, hI'⟩ | exact ⟨(), hI'⟩
            · rw [if_neg (fun h => h.2.elim c2 c3)] at hst
              subst hst
              have hI' : (0 ≤ c + 1 ∧ c + 1 ≤ ((P + 1 : Nat) : Int)) ∧ (0 ≤ m + xl ∧ m + xl ≤ 300 * ((P + 1 : Nat) : Int)) ∧ 0 ≤ b := by omega
              simp (maxSteps := 1000000) (implicitDefEqProofs := false) only [gj, Int.le_refl, Int.toNat_zero, g1, g2, g3, g4, evRegion_st hok, w1, w2, gz, w0, gp, gl, glj, q6, encRoll, Int.lt_irrefl, List.length_nil, Int.natCast_zero, Int.natCast_nonneg, Int.toNat_natCast, List.getElem?_map, List.length_map, c1, q5, c3, ss, sd, evOp, evPlain, evVal, evMem, St.get, sliceOf, arrayOf, fieldsOf, normOf, norm, look, evVar, evFieldAddr, nameOf, St.alloc, St.drop, killOb, part, splice, depth, resultsV, ↓reduceIte, Nat.reduceBEq, Nat.reduceAdd, Nat.reduceSub, Nat.reduceMul, Nat.reduceEqDiff, Nat.reduceLeDiff, Nat.reduceLT, effOf, effMem, effVar, effLit, effMake, effApp, lend, evLit, evNil, freeze, evField, evIndexT, orNil, evSlice, placeOf, evMap, mapOf, keyOk, evFrame, closed, fixed, sameEs, wit, Option.isSome_some, St.with, wantedD, Array.size, te, einl, inls, efr]
              first | exact ⟨(), rfl, hI'⟩ | exact ⟨(), hI'⟩
        · rw [if_neg (fun h => c1 h.1)] at hst
          subst hst
          have hI' : (0 ≤ c + 1 ∧ c + 1 ≤ ((P + 1 : Nat) : Int)) ∧ (0 ≤ m + xl ∧ m + xl ≤ 300 * ((P + 1 : Nat) : Int)) ∧ 0 ≤ b := by omega
          simp (maxSteps := 1000000) (implicitDefEqProofs := false) only [gj, Int.le_refl, Int.toNat_zero, g1, g2, g3, g4, evRegion_st hok, w1, w2, gz, w0, gp, gl, glj, q6, encRoll, Int.lt_irrefl, List.length_nil, Int.natCast_zero, Int.natCast_nonneg, Int.toNat_natCast, List.getElem?_map, List.length_map, c1, ss, sd, evOp, evPlain, evVal, evMem, St.get, sliceOf, arrayOf, fieldsOf, normOf, norm, look, evVar, evFieldAddr, nameOf, St.alloc, St.drop, killOb, part, splice, depth, resultsV, ↓reduceIte, Nat.reduceBEq, Nat.reduceAdd, Nat.reduceSub, Nat.reduceMul, Nat.reduceEqDiff, Nat.reduceLeDiff, Nat.reduceLT, effOf, effMem, effVar, effLit, effMake, effApp, lend, evLit, evNil, freeze, evField, evIndexT, orNil, evSlice, placeOf, evMap, mapOf, keyOk, evFrame, closed, fixed, sameEs, wit, Option.isSome_some, St.with, wantedD, Array.size, te, einl, inls, efr]
          first | exact ⟨(), rfl, hI'⟩ | exact ⟨(), hI'⟩
      · have e1 : lbCount (some zs) ⟨b, c, m⟩ ⟨xl, xp, xs⟩ = 0 + 1 := by unfold lbCount; dsimp only; rw [if_neg hsh]
        have e2 : lbSum (some zs) ⟨b, c, m⟩ ⟨xl, xp, xs⟩ = 0 + xl := by unfold lbSum; dsimp only; rw [if_neg hsh]
        rw [e1, e2] at hst
        try dsimp only at hst
        have q6 : (xs != zs) = true := by simpa using hsh
        have w1 : IntKind.i64.wrap (0 + 1) = 0 + 1 := by decide
        have w2 : IntKind.i64.wrap (0 + xl) = 0 + xl := wrap_in (by omega)
        have nI : (0 : Int) ≤ 0 + 1 ∧ 0 + 1 ≤ 6 := by omega
        by_cases c1 : need ≤ 0 + xl
        · by_cases c2 : b = 0
          · rw [if_pos ⟨c1, .inl c2⟩] at hst
            subst hst
            have q5 : (b == 0) = true := by simpa using c2
            have hI' : ((0 : Int) ≤ 0 + 1 ∧ 0 + 1 ≤ ((P + 1 : Nat) : Int)) ∧ (0 ≤ 0 + xl ∧ 0 + xl ≤ 300 * ((P + 1 : Nat) : Int)) ∧ (0 : Int) ≤ 0 + 1 := by omega
            simp (maxSteps := 1000000) (implicitDefEqProofs := false) only [gj, Int.le_refl, Int.toNat_zero, g1, g2, g3, g4, evRegion_st hok, w1, w2, gz, w0, gp, gl, glj, q6, encRoll, Int.lt_irrefl, List.length_nil, Int.natCast_zero, Int.natCast_nonneg, Int.toNat_natCast, List.getElem?_map, List.length_map, c1, q5, ss, sd, evOp, evPlain, evVal, evMem, St.get, sliceOf, arrayOf, fieldsOf, normOf, norm, look, evVar, evFieldAddr, nameOf, St.alloc, St.drop, killOb, part, splice, depth, resultsV, ↓reduceIte, Nat.reduceBEq, Nat.reduceAdd, Nat.reduceSub, Nat.reduceMul, Nat.reduceEqDiff, Nat.reduceLeDiff, Nat.reduceLT, effOf, effMem, effVar, effLit, effMake, effApp, lend, evLit, evNil, freeze, evField, evIndexT, orNil, evSlice, placeOf, evMap, mapOf, keyOk, evFrame, closed, fixed, sameEs, wit, Option.isSome_some, St.with, wantedD, Array.size, te, einl, inls, efr]
            first | exact ⟨(), rfl, hI'⟩ | exact ⟨(), hI'⟩
          · have q5 : (b == 0) = false := by simpa using c2
            by_cases c3 : 0 + 1 < b
            · rw [if_pos ⟨c1, .inr c3⟩] at hst
              subst hst
              have hI' : ((0 : Int) ≤ 0 + 1 ∧ 0 + 1 ≤ ((P + 1 : Nat) : Int)) ∧ (0 ≤ 0 + xl ∧ 0 + xl ≤ 300 * ((P + 1 : Nat) : Int)) ∧ (0 : Int) ≤ 0 + 1 := by omega
              simp (maxSteps := 1000000) (implicitDefEqProofs := false) only [gj, Int.le_refl, Int.toNat_zero, g1, g2, g3, g4, evRegion_st hok, w1, w2, gz, w0, gp, gl, glj, q6, encRoll, Int.lt_irrefl, List.length_nil, Int.natCast_zero, Int.natCast_nonneg, Int.toNat_natCast, List.getElem?_map, List.length_map, c1, q5, c3, ss, sd, evOp, evPlain, evVal, evMem, St.get, sliceOf, arrayOf, fieldsOf, normOf, norm, look, evVar, evFieldAddr, nameOf, St.alloc, St.drop, killOb, part, splice, depth, resultsV, ↓reduceIte, Nat.reduceBEq, Nat.reduceAdd, Nat.reduceSub, Nat.reduceMul, Nat.reduceEqDiff, Nat.reduceLeDiff, Nat.reduceLT, effOf, effMem, effVar, effLit, effMake, effApp, lend, evLit, evNil, freeze, evField, evIndexT, orNil, evSlice, placeOf, evMap, mapOf, keyOk, evFrame, closed, fixed, sameEs, wit, Option.isSome_some, St.with, wantedD, Array.size, te, einl, inls, efr]
              first | exact ⟨(), rfl, hI'⟩ | exact ⟨(), hI'⟩
            · rw [if_neg (fun h => h.2.elim c2 c3)] at hst
              subst hst
              have hI' : ((0 : Int) ≤ 0 + 1 ∧ 0 + 1 ≤ ((P + 1 : Nat) : Int)) ∧ (0 ≤ 0 + xl ∧ 0 + xl ≤ 300 * ((P + 1 : Nat) : Int)) ∧ 0 ≤ b := by omega
              simp (maxSteps := 1000000) (implicitDefEqProofs := false) only [gj, Int.le_refl, Int.toNat_zero, g1, g2, g3, g4, evRegion_st hok, w1, w2, gz, w0, gp, gl, glj, q6, encRoll, Int.lt_irrefl, List.length_nil, Int.natCast_zero, Int.natCast_nonneg, Int.toNat_natCast, List.getElem?_map, List.length_map, c1, q5, c3, ss, sd, evOp, evPlain, evVal, evMem, St.get, sliceOf, arrayOf, fieldsOf, normOf, norm, look, evVar, evFieldAddr, nameOf, St.alloc, St.drop, killOb, part, splice, depth, resultsV, ↓reduceIte, Nat.reduceBEq, Nat.reduceAdd, Nat.reduceSub, Nat.reduceMul, Nat.reduceEqDiff, Nat.reduceLeDiff, Nat.reduceLT, effOf, effMem, effVar, effLit, effMake, effApp, lend, evLit, evNil, freeze, evField, evIndexT, orNil, evSlice, placeOf, evMap, mapOf, keyOk, evFrame, closed, fixed, sameEs, wit, Option.isSome_some, St.with, wantedD, Array.size, te, einl, inls, efr]
              first | exact ⟨(), rfl, hI'⟩ | exact ⟨(), hI'⟩
        · rw [if_neg (fun h => c1 h.1)] at hst
          subst hst
          have hI' : ((0 : Int) ≤ 0 + 1 ∧ 0 + 1 ≤ ((P + 1 : Nat) : Int)) ∧ (0 ≤ 0 + xl ∧ 0 + xl ≤ 300 * ((P + 1 : Nat) : Int)) ∧ 0 ≤ b := by omega
          simp (maxSteps := 1000000) (implicitDefEqProofs := false) only [gj, Int.le_refl, Int.toNat_zero, g1, g2, g3, g4, evRegion_st hok, w1, w2, gz, w0, gp, gl, glj, q6, encRoll, Int.lt_irrefl, List.length_nil, Int.natCast_zero, Int.natCast_nonneg, Int.toNat_natCast, List.getElem?_map, List.length_map, c1, ss, sd, evOp, evPlain, evVal, evMem, St.get, sliceOf, arrayOf, fieldsOf, normOf, norm, look, evVar, evFieldAddr, nameOf, St.alloc, St.drop, killOb, part, splice, depth, resultsV, ↓reduceIte, Nat.reduceBEq, Nat.reduceAdd, Nat.reduceSub, Nat.reduceMul, Nat.reduceEqDiff, Nat.reduceLeDiff, Nat.reduceLT, effOf, effMem, effVar, effLit, effMake, effApp, lend, evLit, evNil, freeze, evField, evIndexT, orNil, evSlice, placeOf, evMap, mapOf, keyOk, evFrame, closed, fixed, sameEs, wit, Option.isSome_some, St.with, wantedD, Array.size, te, einl, inls, efr]
          first | exact ⟨(), rfl, hI'⟩ | exact ⟨(), hI'⟩
end Go.AM.D
end
