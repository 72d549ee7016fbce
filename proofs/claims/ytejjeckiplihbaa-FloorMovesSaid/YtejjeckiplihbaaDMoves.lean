/-
A room that is moved (the law).
-/
import Derived.Test.YtejjeckiplihbaaDLawA
set_option linter.unusedSimpArgs false

namespace Go.AM.D
open Go Go.AM Go.Proofs

def mv (d : Int) (a : Rect) : Rect := ⟨IntKind.i64.wrap (a.x + d), a.y, a.w, a.h⟩
def encMv (d : Int) (a : Rect) : V := encRect (mv d a)
def movedObs (d : Int) : List Rect → List (Nat × Ob)
  | [] => [(9, { es := 2, flat := true, t := true, app := false, elems := [.agg [.emp, .emp]] })]
  | a :: l => [(9, { es := 2, flat := false, t := true, app := false, elems := [.agg [.own 57 0 (a :: l).length, .emp]] }), (57, { es := 4, flat := true, t := true, app := true, elems := (a :: l).map (encMv d) })]
theorem mv_eq {d : Int} {a : Rect} (hd : 0 ≤ d ∧ d ≤ 60) (ha : rectOk a = true) : mv d a = ⟨a.x + d, a.y, a.w, a.h⟩ := by
  have := rectOk_iff.1 ha
  unfold mv
  rw [wrap_in (by omega)]
theorem mv_cell {d : Int} {a : Rect} (hd : 0 ≤ d ∧ d ≤ 60) (ha : rectOk a = true) (x y : Int) : inR (mv d a) (x + d) y = inR a x y := by
  rw [mv_eq hd ha, Bool.eq_iff_iff, inR_iff, inR_iff]
  dsimp only
  omega
theorem moved_cell {d : Int} {rs : List Rect} (hd : 0 ≤ d ∧ d ≤ 60) (h : ∀ a ∈ rs, rectOk a = true) (x y : Int) : cellM (rs.map (mv d)) (x + d) y = cellM rs x y := by
  induction rs with
  | nil => rfl
  | cons a rs ih =>
    have h1 := mv_cell hd (h a (by simp)) x y
    have h2 := ih fun b hb => h b (by simp [hb])
    unfold cellM at h2 ⊢
    rw [List.map_cons, List.any_cons, List.any_cons, h1, h2]
theorem moved_strips {r : Room} {w o d : Int} (hd : 0 ≤ d ∧ d ≤ 60) (h : dividedE r w o = 0) (hv : roomE ⟨r.rects.map (mv d), []⟩ = 0) :
    stripsV ⟨r.rects.map (mv d), []⟩ w ((o + d).tmod w) = (stripsV r w o).map (·.move d) ∧ dividedE ⟨r.rects.map (mv d), []⟩ w ((o + d).tmod w) = 0 := by
  obtain ⟨h1, h2, h3⟩ := dividedE_zero h
  have t1 := Int.tmod_nonneg w (show 0 ≤ o + d by omega)
  have t2 := Int.tmod_lt_of_pos (o + d) (show 0 < w by omega)
  have he : dividedE ⟨r.rects.map (mv d), []⟩ w ((o + d).tmod w) = 0 := by
    unfold dividedE
    rw [if_neg (by rw [hv]; decide), if_pos ⟨inB_iff.2 h2, inB_iff.2 ⟨by omega, by omega⟩⟩]
  refine ⟨?_, he⟩
  unfold stripsV
  rw [if_pos he, if_pos h, Int.tmod_eq_emod_of_nonneg (by omega)]
  exact strips_move (cells_inside (roomE_all h1)) (cells_inside (roomE_all hv)) hd.1 h2.1 h2.2 h3.1 h3.2 (moved_cell hd (roomE_all h1))
theorem strF_x {f : Int → Int → Bool} {w : Int} (hw : 0 ≤ w) : ∀ (n : Nat) (x : Int), ∀ s ∈ strF f w n x, x ≤ s.x ∧ s.x < 60
  | 0, _ => fun a ha => by cases ha
  | n + 1, x => by
    intro s hs
    unfold strF at hs
    split at hs
    · split at hs
      · rcases List.mem_cons.1 hs with h | h
        · subst h
          have : (stripM f x w).x = x := rfl
          omega
        · have := strF_x hw n (x + w) s h
          omega
      · have := strF_x hw n (x + w) s hs
        omega
    · cases hs
theorem stripsV_x {r : Room} {w o : Int} : ∀ s ∈ stripsV r w o, -20 ≤ s.x ∧ s.x < 60 := by
  intro s hs
  unfold stripsV at hs
  split at hs
  · rename_i h
    obtain ⟨h1, h2, h3⟩ := dividedE_zero h
    have := strF_x (by omega) _ _ s hs
    omega
  · cases hs
def mid (d : Int) (L : List Strip) (n : Nat) : List V := ((L.take n).map (·.move d)).map encStrip ++ (L.drop n).map encStrip
theorem mid_zero (d : Int) (L : List Strip) : mid d L 0 = L.map encStrip := by simp [mid]
theorem mid_len (d : Int) (L : List Strip) (n : Nat) : (mid d L n).length = L.length := by simp [mid]; omega
theorem mid_get {d : Int} {L : List Strip} {n : Nat} {s : Strip} (h : L[n]? = some s) : (mid d L n)[n]? = some (encStrip s) := by
  obtain ⟨hn, e⟩ := List.getElem?_eq_some_iff.1 h
  unfold mid
  rw [List.getElem?_append_right (by simp; omega)]
  have : n - (((L.take n).map (·.move d)).map encStrip).length = 0 := by simp; omega
  rw [this, List.getElem?_map, List.getElem?_drop, Nat.add_zero, h]
  rfl
theorem mid_now {d : Int} {L : List Strip} {n : Nat} {s : Strip} (h : L[n]? = some s) : (mid d L (n + 1))[n]? = some (encStrip (s.move d)) := by
  obtain ⟨hn, e⟩ := List.getElem?_eq_some_iff.1 h
  unfold mid
  rw [List.getElem?_append_left (by simp; omega), List.getElem?_map, List.getElem?_map, List.getElem?_take, if_pos (by omega), h]
  rfl
theorem mid_put {d : Int} {L : List Strip} {n : Nat} {s : Strip} (h : L[n]? = some s) : (mid d L n).set n (encStrip (s.move d)) = mid d L (n + 1) := by
  obtain ⟨hn, e⟩ := List.getElem?_eq_some_iff.1 h
  apply List.ext_getElem?
  intro i
  rw [List.getElem?_set]
  have hl : ∀ k, k ≤ L.length → (((L.take k).map (·.move d)).map encStrip).length = k := by intro k hk; simp; omega
  split
  · rename_i e1
    subst e1
    rw [if_pos (by rw [mid_len]; exact hn), mid_now h]
  · rename_i e1
    unfold mid
    rcases Nat.lt_or_ge i n with h1 | h1
    · rw [List.getElem?_append_left (by rw [hl n (by omega)]; omega), List.getElem?_append_left (by rw [hl (n + 1) (by omega)]; omega)]
      rw [List.getElem?_map, List.getElem?_map, List.getElem?_map, List.getElem?_map, List.getElem?_take, List.getElem?_take, if_pos h1, if_pos (by omega)]
    · rw [List.getElem?_append_right (by rw [hl n (by omega)]; omega), List.getElem?_append_right (by rw [hl (n + 1) (by omega)]; omega), hl n (by omega), hl (n + 1) (by omega)]
      rw [List.getElem?_map, List.getElem?_map, List.getElem?_drop, List.getElem?_drop]
      congr 2
      omega
theorem movedObs_snoc (d : Int) (l : List Rect) (a : Rect) : movedObs d (l ++ [a]) = [(9, { es := 2, flat := false, t := true, app := false, elems := [.agg [.own 57 0 (l ++ [a]).length, .emp]] }), (57, { es := 4, flat := true, t := true, app := true, elems := (l ++ [a]).map (encMv d) })] := by
  cases l with
  | nil => rfl
  | cons b l => rfl
theorem movedObs_ne (d : Int) {l : List Rect} (h : l ≠ []) : movedObs d l = [(9, { es := 2, flat := false, t := true, app := false, elems := [.agg [.own 57 0 l.length, .emp]] }), (57, { es := 4, flat := true, t := true, app := true, elems := l.map (encMv d) })] := by
  cases l with
  | nil => exact absurd rfl h
  | cons b l => rfl
theorem okT3 : okCode (Try.f3.body.getD .skip) = true := by decide +kernel
set_option maxRecDepth 20000 in
set_option maxHeartbeats 8000000 in
theorem c3 (r : Room) (w o d : Int) : (orcω E X0).call 3 [encRoom r, encLines w o, .int .i64 d] = some (.bool true) := by
  refine call_of rfl fn3 rfl ?_
  have hok := okT3
  simp only [Try.f3, Option.getD_some, okCode, Bool.and_eq_true, Bool.and_true, Bool.true_and] at hok
  obtain ⟨hk1, hk2⟩ := hok
  have k0 := c16 r []
  have k1 := c17
  rw [List.map_nil] at k0
  unfold encLines
  cases h : manyM r [] with
  | true =>
    rw [h] at k0
    obtain ⟨rs, ds⟩ := r
    unfold encRoom at k0 ⊢
    simp (maxSteps := 1000000) (implicitDefEqProofs := false) only [Try.ntmps3, Try.results3, efc3, fc3, k0, k1, ss, List.replicate, evOp, evPlain, evVal, evMem, St.eval, St.put, St.get, constV, List.set, lenV, sliceOf, arrayOf, fieldsOf, normOf, norm, firstRegion, look, maskFrom, evBin, evIndexS, evLoad, evVar, evStore, evFieldAddr, nameOf, St.alloc, St.drop, killL, kill, killAll, killObs, killOb, upd, cells?, part, retag, retagL, putIn, refFree, refFreeL, isNew, isNewL, Ty.isAgg, splice, idsL, ids, idsLL, reach, depth, St.dropL, resultsV, resultV, ↓reduceIte, Nat.reduceBEq, Nat.reduceAdd, Nat.reduceSub, Nat.reduceMul, Nat.reduceEqDiff, Nat.reduceLeDiff, Nat.reduceLT, effOf, effMem, effStore, effCall, effVar, effLit, effMake, effApp, Eff.ap, lend, evLit, evMake, evNil, freeze, onto, dropO, elemsV, sized, evCmp, eqT, eqG, minV, evUn, evField, evExtract, evIndexA, evIndexV, evSlice, optInt, fillV, placeOf, thawed, del, isNilSlice, plain, plainL, cellsJ, junkOk, evLook, evMap, evEnter, effEnter, findV, mapOf, keyOk, evFrame, unframe, closed, fixed, sameEs, pickObs, putObs, wit, sameWit, Option.isSome_some, evNilCheck, St.with, setSlots, setObs, wantedD, seqOf, noRange, setAll, Array.size, te, einl, inls, efr]
  | false =>
  rw [h] at k0
  by_cases hd0 : d < 0
  · obtain ⟨rs, ds⟩ := r
    unfold encRoom at k0 ⊢
    simp (maxSteps := 1000000) (implicitDefEqProofs := false) only [Try.ntmps3, Try.results3, efc3, fc3, k0, k1, hd0, ss, List.replicate, evOp, evPlain, evVal, evMem, St.eval, St.put, St.get, constV, List.set, lenV, sliceOf, arrayOf, fieldsOf, normOf, norm, firstRegion, look, maskFrom, evBin, evIndexS, evLoad, evVar, evStore, evFieldAddr, nameOf, St.alloc, St.drop, killL, kill, killAll, killObs, killOb, upd, cells?, part, retag, retagL, putIn, refFree, refFreeL, isNew, isNewL, Ty.isAgg, splice, idsL, ids, idsLL, reach, depth, St.dropL, resultsV, resultV, ↓reduceIte, Nat.reduceBEq, Nat.reduceAdd, Nat.reduceSub, Nat.reduceMul, Nat.reduceEqDiff, Nat.reduceLeDiff, Nat.reduceLT, effOf, effMem, effStore, effCall, effVar, effLit, effMake, effApp, Eff.ap, lend, evLit, evMake, evNil, freeze, onto, dropO, elemsV, sized, evCmp, eqT, eqG, minV, evUn, evField, evExtract, evIndexA, evIndexV, evSlice, optInt, fillV, placeOf, thawed, del, isNilSlice, plain, plainL, cellsJ, junkOk, evLook, evMap, evEnter, effEnter, findV, mapOf, keyOk, evFrame, unframe, closed, fixed, sameEs, pickObs, putObs, wit, sameWit, Option.isSome_some, evNilCheck, St.with, setSlots, setObs, wantedD, seqOf, noRange, setAll, Array.size, te, einl, inls, efr]
  by_cases hd1 : 60 < d
  · obtain ⟨rs, ds⟩ := r
    unfold encRoom at k0 ⊢
    simp (maxSteps := 1000000) (implicitDefEqProofs := false) only [Try.ntmps3, Try.results3, efc3, fc3, k0, k1, hd0, hd1, ss, List.replicate, evOp, evPlain, evVal, evMem, St.eval, St.put, St.get, constV, List.set, lenV, sliceOf, arrayOf, fieldsOf, normOf, norm, firstRegion, look, maskFrom, evBin, evIndexS, evLoad, evVar, evStore, evFieldAddr, nameOf, St.alloc, St.drop, killL, kill, killAll, killObs, killOb, upd, cells?, part, retag, retagL, putIn, refFree, refFreeL, isNew, isNewL, Ty.isAgg, splice, idsL, ids, idsLL, reach, depth, St.dropL, resultsV, resultV, ↓reduceIte, Nat.reduceBEq, Nat.reduceAdd, Nat.reduceSub, Nat.reduceMul, Nat.reduceEqDiff, Nat.reduceLeDiff, Nat.reduceLT, effOf, effMem, effStore, effCall, effVar, effLit, effMake, effApp, Eff.ap, lend, evLit, evMake, evNil, freeze, onto, dropO, elemsV, sized, evCmp, eqT, eqG, minV, evUn, evField, evExtract, evIndexA, evIndexV, evSlice, optInt, fillV, placeOf, thawed, del, isNilSlice, plain, plainL, cellsJ, junkOk, evLook, evMap, evEnter, effEnter, findV, mapOf, keyOk, evFrame, unframe, closed, fixed, sameEs, pickObs, putObs, wit, sameWit, Option.isSome_some, evNilCheck, St.with, setSlots, setObs, wantedD, seqOf, noRange, setAll, Array.size, te, einl, inls, efr]
  obtain ⟨h1, h2, _⟩ := many_no h
  have k2 := c18 r w o h1 h2
  have hst := stripsV_len (r := r) (w := w) (o := o)
  have n1 := new_strips (stripsV r w o)
  have z1 := sized_strips (stripsV r w o)
  have p1 : plainL ((stripsV r w o).map encStrip) = true := plainL_map (fun _ => rfl) _
  have f1 := free_strips (stripsV r w o)
  generalize hL : stripsV r w o = L at *
  generalize hE : dividedE r w o = e at *
  obtain ⟨rs, ds⟩ := r
  dsimp only at h1 h2
  unfold encRoom at k0 k2 ⊢
  simp (maxSteps := 1000000) (implicitDefEqProofs := false) only [Try.ntmps3, Try.results3, efc3, fc3, k0, k2, n1, f1, z1, p1, and_self, if_true, hd0, hd1, List.length_map, ss, List.replicate, evOp, evPlain, evVal, evMem, St.eval, St.put, St.get, constV, List.set, lenV, sliceOf, arrayOf, fieldsOf, normOf, norm, firstRegion, look, maskFrom, evBin, evIndexS, evLoad, evVar, evStore, evFieldAddr, nameOf, St.alloc, St.drop, killL, kill, killAll, killObs, killOb, upd, cells?, part, retag, retagL, putIn, refFree, refFreeL, isNew, isNewL, Ty.isAgg, splice, idsL, ids, idsLL, reach, depth, St.dropL, resultsV, resultV, ↓reduceIte, Nat.reduceBEq, Nat.reduceAdd, Nat.reduceSub, Nat.reduceMul, Nat.reduceEqDiff, Nat.reduceLeDiff, Nat.reduceLT, effOf, effMem, effStore, effCall, effVar, effLit, effMake, effApp, Eff.ap, lend, evLit, evMake, evNil, freeze, onto, dropO, elemsV, sized, evCmp, eqT, eqG, minV, evUn, evField, evExtract, evIndexA, evIndexV, evSlice, optInt, fillV, placeOf, thawed, del, isNilSlice, plain, plainL, cellsJ, junkOk, evLook, evMap, evEnter, effEnter, findV, mapOf, keyOk, evFrame, unframe, closed, fixed, sameEs, pickObs, putObs, wit, sameWit, Option.isSome_some, evNilCheck, St.with, setSlots, setObs, wantedD, seqOf, noRange, setAll, Array.size, te, einl, inls, efr]
  generalize hr : loopAt _ _ _ _ _ _ = r; revert r
  refine loop_list rs (fun pre _ => [(10, .int .i64 pre.length)]) (fun pre _ => movedObs d pre) (fun _ (_ : Unit) => True) () (by omega) (by simp (maxSteps := 1000000) (implicitDefEqProofs := false) only [movedObs, ss, List.replicate, evOp, evPlain, evVal, evMem, St.eval, St.put, St.get, constV, List.set, lenV, sliceOf, arrayOf, fieldsOf, normOf, norm, firstRegion, look, maskFrom, evBin, evIndexS, evLoad, evVar, evStore, evFieldAddr, nameOf, St.alloc, St.drop, killL, kill, killAll, killObs, killOb, upd, cells?, part, retag, retagL, putIn, refFree, refFreeL, isNew, isNewL, Ty.isAgg, splice, idsL, ids, idsLL, reach, depth, St.dropL, resultsV, resultV, ↓reduceIte, Nat.reduceBEq, Nat.reduceAdd, Nat.reduceSub, Nat.reduceMul, Nat.reduceEqDiff, Nat.reduceLeDiff, Nat.reduceLT, effOf, effMem, effStore, effCall, effVar, effLit, effMake, effApp, Eff.ap, lend, evLit, evMake, evNil, freeze, onto, dropO, elemsV, sized, evCmp, eqT, eqG, minV, evUn, evField, evExtract, evIndexA, evIndexV, evSlice, optInt, fillV, placeOf, thawed, del, isNilSlice, plain, plainL, cellsJ, junkOk, evLook, evMap, evEnter, effEnter, findV, mapOf, keyOk, evFrame, unframe, closed, fixed, sameEs, pickObs, putObs, wit, sameWit, Option.isSome_some, evNilCheck, St.with, setSlots, setObs, wantedD, seqOf, noRange, setAll, Array.size, te, einl, inls, efr]) trivial (fun _ _ => ?_) (fun pre a post _ hp _ g1 g2 g3 g4 => ?_)
  rotate_left
  · rw [movedObs_snoc]
    by_cases hne : pre = []
    · subst hne
      have q1 : (0 : Int) < rs.length := g1
      have q2 : 0 < rs.length := g2
      have q3 : rs[0]? = some a := g3
      have q4 : IntKind.i64.wrap (0 + 1) = 1 := by decide
      have q5 : roomy 1 32 = true := by decide
      simp (maxSteps := 1000000) (implicitDefEqProofs := false) only [q1, q2, q3, q4, q5, movedObs, encMv, encRect, mv, Int.natCast_nonneg, Int.toNat_natCast, Int.toNat_zero, List.getElem?_map, List.length_map, List.nil_append, Int.le_refl, if_true, Int.natCast_one, Int.cast_ofNat_Int, ss, List.replicate, evOp, evPlain, evVal, evMem, St.eval, St.put, St.get, constV, List.set, lenV, sliceOf, arrayOf, fieldsOf, normOf, norm, firstRegion, look, maskFrom, evBin, evIndexS, evLoad, evVar, evStore, evFieldAddr, nameOf, St.alloc, St.drop, killL, kill, killAll, killObs, killOb, upd, cells?, part, retag, retagL, putIn, refFree, refFreeL, isNew, isNewL, Ty.isAgg, splice, idsL, ids, idsLL, reach, depth, St.dropL, resultsV, resultV, ↓reduceIte, Nat.reduceBEq, Nat.reduceAdd, Nat.reduceSub, Nat.reduceMul, Nat.reduceEqDiff, Nat.reduceLeDiff, Nat.reduceLT, effOf, effMem, effStore, effCall, effVar, effLit, effMake, effApp, Eff.ap, lend, evLit, evMake, evNil, freeze, onto, dropO, elemsV, sized, evCmp, eqT, eqG, minV, evUn, evField, evExtract, evIndexA, evIndexV, evSlice, optInt, fillV, placeOf, thawed, del, isNilSlice, plain, plainL, cellsJ, junkOk, evLook, evMap, evEnter, effEnter, findV, mapOf, keyOk, evFrame, unframe, closed, fixed, sameEs, pickObs, putObs, wit, sameWit, Option.isSome_some, evNilCheck, St.with, setSlots, setObs, wantedD, seqOf, noRange, setAll, Array.size, te, einl, inls, efr]
      (first | exact ⟨(), trivial⟩ | refine ⟨(), ?_, trivial⟩ | skip)
    · rw [movedObs_ne d hne]
      have hroom : roomy (pre.length + 1) 32 = true := by simp [roomy]; omega
      have hbig : pre.length + 1 ≤ 4294967296 := by omega
      have e1 : pre.map (encMv d) ++ [.agg [.int .i64 (IntKind.i64.wrap (a.x + d)), .int .i64 a.y, .int .i64 a.w, .int .i64 a.h]] = (pre ++ [a]).map (encMv d) := by simp [encMv, encRect, mv]
      have e2 : pre.length + 1 = (pre ++ [a]).length := by simp
      have z2 : sized 4 (pre.map (encMv d)) = true := sized_map (f := encMv d) (n := 4) (fun _ => ⟨_, rfl, rfl⟩) pre
      simp (maxSteps := 1000000) (implicitDefEqProofs := false) only [g1, g2, g3, g4, hroom, hbig, e1, z2, encRect, Int.natCast_nonneg, Int.toNat_natCast, List.getElem?_map, List.length_map, ss, List.replicate, evOp, evPlain, evVal, evMem, St.eval, St.put, St.get, constV, List.set, lenV, sliceOf, arrayOf, fieldsOf, normOf, norm, firstRegion, look, maskFrom, evBin, evIndexS, evLoad, evVar, evStore, evFieldAddr, nameOf, St.alloc, St.drop, killL, kill, killAll, killObs, killOb, upd, cells?, part, retag, retagL, putIn, refFree, refFreeL, isNew, isNewL, Ty.isAgg, splice, idsL, ids, idsLL, reach, depth, St.dropL, resultsV, resultV, ↓reduceIte, Nat.reduceBEq, Nat.reduceAdd, Nat.reduceSub, Nat.reduceMul, Nat.reduceEqDiff, Nat.reduceLeDiff, Nat.reduceLT, effOf, effMem, effStore, effCall, effVar, effLit, effMake, effApp, Eff.ap, lend, evLit, evMake, evNil, freeze, onto, dropO, elemsV, sized, evCmp, eqT, eqG, minV, evUn, evField, evExtract, evIndexA, evIndexV, evSlice, optInt, fillV, placeOf, thawed, del, isNilSlice, plain, plainL, cellsJ, junkOk, evLook, evMap, evEnter, effEnter, findV, mapOf, keyOk, evFrame, unframe, closed, fixed, sameEs, pickObs, putObs, wit, sameWit, Option.isSome_some, evNilCheck, St.with, setSlots, setObs, wantedD, seqOf, noRange, setAll, Array.size, te, einl, inls, efr]
      rw [e2]
      exact ⟨(), rfl⟩
  by_cases he : e = 0
  · subst he
    obtain ⟨m1, m2, m3⟩ := dividedE_zero hE
    have m4 := roomE_zero m1
    dsimp only at m4
    have hne : rs ≠ [] := fun h => by rw [h] at m4; simp at m4
    have hm := c19 ⟨rs.map (mv d), []⟩ (by dsimp only; rw [List.length_map]; omega) (by dsimp only [List.length_nil]; omega)
    have hb := c18 ⟨rs.map (mv d), []⟩ w ((o + d).tmod w) (by dsimp only; rw [List.length_map]; omega) (by dsimp only [List.length_nil]; omega)
    have hq := moved_strips (r := ⟨rs, ds⟩) (w := w) (o := o) (d := d) (by omega) hE
    rw [hL] at hq
    generalize hF : stripsV ⟨rs.map (mv d), []⟩ w ((o + d).tmod w) = L' at *
    generalize hG : dividedE ⟨rs.map (mv d), []⟩ w ((o + d).tmod w) = e' at *
    have hee : ((rs.map (mv d)).map encRect) = rs.map (encMv d) := by rw [List.map_map]; rfl
    unfold encRoom at hm hb
    dsimp only at hm hb
    rw [hee] at hm hb
    rw [List.map_nil] at hm hb
    have w1 : IntKind.i64.wrap (o + d) = o + d := wrap_in (by omega)
    have w2 : ¬ w = 0 := by omega
    rw [movedObs_ne d hne]
    by_cases hv : roomE ⟨rs.map (mv d), []⟩ = 0
    · obtain ⟨q1, q2⟩ := hq hv
      subst q1 q2
      have n2 := new_strips (L.map (·.move d))
      have f2 := free_strips (L.map (·.move d))
      rw [hv] at hm
      generalize roomE ⟨rs.map (mv d), []⟩ = e1 at *
      simp (maxSteps := 1000000) (implicitDefEqProofs := false) only [bne_self_eq_false, hm, hb, n2, f2, w1, ne_eq, w2, not_false_eq_true, evRegion_st hk1, List.length_map, Int.lt_irrefl, ss, List.replicate, evOp, evPlain, evVal, evMem, St.eval, St.put, St.get, constV, List.set, lenV, sliceOf, arrayOf, fieldsOf, normOf, norm, firstRegion, look, maskFrom, evBin, evIndexS, evLoad, evVar, evStore, evFieldAddr, nameOf, St.alloc, St.drop, killL, kill, killAll, killObs, killOb, upd, cells?, part, retag, retagL, putIn, refFree, refFreeL, isNew, isNewL, Ty.isAgg, splice, idsL, ids, idsLL, reach, depth, St.dropL, resultsV, resultV, ↓reduceIte, Nat.reduceBEq, Nat.reduceAdd, Nat.reduceSub, Nat.reduceMul, Nat.reduceEqDiff, Nat.reduceLeDiff, Nat.reduceLT, effOf, effMem, effStore, effCall, effVar, effLit, effMake, effApp, Eff.ap, lend, evLit, evMake, evNil, freeze, onto, dropO, elemsV, sized, evCmp, eqT, eqG, minV, evUn, evField, evExtract, evIndexA, evIndexV, evSlice, optInt, fillV, placeOf, thawed, del, isNilSlice, plain, plainL, cellsJ, junkOk, evLook, evMap, evEnter, effEnter, findV, mapOf, keyOk, evFrame, unframe, closed, fixed, sameEs, pickObs, putObs, wit, sameWit, Option.isSome_some, evNilCheck, St.with, setSlots, setObs, wantedD, seqOf, noRange, setAll, Array.size, te, einl, inls, efr]
      generalize hr : loopAt _ _ _ _ _ _ = r; revert r
      refine loop_list L (fun pre _ => [(14, .int .i64 pre.length)]) (fun pre _ => [(32, { es := 3, flat := true, t := true, app := false, elems := mid d L pre.length })]) (fun _ (_ : Unit) => True) () (by omega) (by simp (maxSteps := 1000000) (implicitDefEqProofs := false) only [mid_zero, List.length_nil, ss, List.replicate, evOp, evPlain, evVal, evMem, St.eval, St.put, St.get, constV, List.set, lenV, sliceOf, arrayOf, fieldsOf, normOf, norm, firstRegion, look, maskFrom, evBin, evIndexS, evLoad, evVar, evStore, evFieldAddr, nameOf, St.alloc, St.drop, killL, kill, killAll, killObs, killOb, upd, cells?, part, retag, retagL, putIn, refFree, refFreeL, isNew, isNewL, Ty.isAgg, splice, idsL, ids, idsLL, reach, depth, St.dropL, resultsV, resultV, ↓reduceIte, Nat.reduceBEq, Nat.reduceAdd, Nat.reduceSub, Nat.reduceMul, Nat.reduceEqDiff, Nat.reduceLeDiff, Nat.reduceLT, effOf, effMem, effStore, effCall, effVar, effLit, effMake, effApp, Eff.ap, lend, evLit, evMake, evNil, freeze, onto, dropO, elemsV, sized, evCmp, eqT, eqG, minV, evUn, evField, evExtract, evIndexA, evIndexV, evSlice, optInt, fillV, placeOf, thawed, del, isNilSlice, plain, plainL, cellsJ, junkOk, evLook, evMap, evEnter, effEnter, findV, mapOf, keyOk, evFrame, unframe, closed, fixed, sameEs, pickObs, putObs, wit, sameWit, Option.isSome_some, evNilCheck, St.with, setSlots, setObs, wantedD, seqOf, noRange, setAll, Array.size, te, einl, inls, efr]) trivial (fun _ _ => ?_) (fun pre s post _ hp _ g1 g2 g3 g4 => ?_)
      · simp (maxSteps := 1000000) (implicitDefEqProofs := false) only [Int.lt_irrefl, k1, List.length_map, Try.ntmps3, Try.results3, efc3, fc3, ss, List.replicate, evOp, evPlain, evVal, evMem, St.eval, St.put, St.get, constV, List.set, lenV, sliceOf, arrayOf, fieldsOf, normOf, norm, firstRegion, look, maskFrom, evBin, evIndexS, evLoad, evVar, evStore, evFieldAddr, nameOf, St.alloc, St.drop, killL, kill, killAll, killObs, killOb, upd, cells?, part, retag, retagL, putIn, refFree, refFreeL, isNew, isNewL, Ty.isAgg, splice, idsL, ids, idsLL, reach, depth, St.dropL, resultsV, resultV, ↓reduceIte, Nat.reduceBEq, Nat.reduceAdd, Nat.reduceSub, Nat.reduceMul, Nat.reduceEqDiff, Nat.reduceLeDiff, Nat.reduceLT, effOf, effMem, effStore, effCall, effVar, effLit, effMake, effApp, Eff.ap, lend, evLit, evMake, evNil, freeze, onto, dropO, elemsV, sized, evCmp, eqT, eqG, minV, evUn, evField, evExtract, evIndexA, evIndexV, evSlice, optInt, fillV, placeOf, thawed, del, isNilSlice, plain, plainL, cellsJ, junkOk, evLook, evMap, evEnter, effEnter, findV, mapOf, keyOk, evFrame, unframe, closed, fixed, sameEs, pickObs, putObs, wit, sameWit, Option.isSome_some, evNilCheck, St.with, setSlots, setObs, wantedD, seqOf, noRange, setAll, Array.size, te, einl, inls, efr]
      · have hx := stripsV_x s (by rw [hL, hp]; simp)
        have m1 := mid_get (d := d) g3
        have m2 := mid_put (d := d) g3
        have m3 := mid_now (d := d) g3
        have m4 := mid_len d L pre.length
        have m5 := mid_len d L (pre.length + 1)
        have m6 : (pre ++ [s]).length = pre.length + 1 := by simp
        have m7 := congrArg (mid d L) m6
        have w3 : IntKind.i64.wrap (s.x + d) = s.x + d := wrap_in (by omega)
        have hg : (L.map (·.move d))[pre.length]? = some (s.move d) := by rw [List.getElem?_map, g3]; rfl
        have hg2 : ((L.map (·.move d)).map encStrip)[pre.length]? = some (encStrip (s.move d)) := by rw [List.getElem?_map, hg]; rfl
        simp only [encStrip, Strip.move] at m1 m2 m3
        generalize mid d L pre.length = A at *
        generalize mid d L (pre.length + 1) = B at *
        generalize hC : (L.map (·.move d)).map encStrip = C at *
        clear hC
        simp only [encStrip, Strip.move] at hg2
        simp (maxSteps := 1000000) (implicitDefEqProofs := false) only [g1, g2, g4, m1, m2, m3, m4, m5, w3, hg2, evRegion_st hk2, beq_self_eq_true, Bool.and_true, Bool.not_true, Int.natCast_nonneg, Int.toNat_natCast, List.length_map, ss, List.replicate, evOp, evPlain, evVal, evMem, St.eval, St.put, St.get, constV, List.set, lenV, sliceOf, arrayOf, fieldsOf, normOf, norm, firstRegion, look, maskFrom, evBin, evIndexS, evLoad, evVar, evStore, evFieldAddr, nameOf, St.alloc, St.drop, killL, kill, killAll, killObs, killOb, upd, cells?, part, retag, retagL, putIn, refFree, refFreeL, isNew, isNewL, Ty.isAgg, splice, idsL, ids, idsLL, reach, depth, St.dropL, resultsV, resultV, ↓reduceIte, Nat.reduceBEq, Nat.reduceAdd, Nat.reduceSub, Nat.reduceMul, Nat.reduceEqDiff, Nat.reduceLeDiff, Nat.reduceLT, effOf, effMem, effStore, effCall, effVar, effLit, effMake, effApp, Eff.ap, lend, evLit, evMake, evNil, freeze, onto, dropO, elemsV, sized, evCmp, eqT, eqG, minV, evUn, evField, evExtract, evIndexA, evIndexV, evSlice, optInt, fillV, placeOf, thawed, del, isNilSlice, plain, plainL, cellsJ, junkOk, evLook, evMap, evEnter, effEnter, findV, mapOf, keyOk, evFrame, unframe, closed, fixed, sameEs, pickObs, putObs, wit, sameWit, Option.isSome_some, evNilCheck, St.with, setSlots, setObs, wantedD, seqOf, noRange, setAll, Array.size, te, einl, inls, efr]
        exact ⟨(), by rw [m7]⟩
    · have hv' : (roomE ⟨rs.map (mv d), []⟩ != 0) = true := by simpa using hv
      generalize roomE ⟨rs.map (mv d), []⟩ = e1 at *
      simp (maxSteps := 1000000) (implicitDefEqProofs := false) only [bne_self_eq_false, hm, hv', k1, List.length_map, Int.lt_irrefl, Try.ntmps3, Try.results3, efc3, fc3, ss, List.replicate, evOp, evPlain, evVal, evMem, St.eval, St.put, St.get, constV, List.set, lenV, sliceOf, arrayOf, fieldsOf, normOf, norm, firstRegion, look, maskFrom, evBin, evIndexS, evLoad, evVar, evStore, evFieldAddr, nameOf, St.alloc, St.drop, killL, kill, killAll, killObs, killOb, upd, cells?, part, retag, retagL, putIn, refFree, refFreeL, isNew, isNewL, Ty.isAgg, splice, idsL, ids, idsLL, reach, depth, St.dropL, resultsV, resultV, ↓reduceIte, Nat.reduceBEq, Nat.reduceAdd, Nat.reduceSub, Nat.reduceMul, Nat.reduceEqDiff, Nat.reduceLeDiff, Nat.reduceLT, effOf, effMem, effStore, effCall, effVar, effLit, effMake, effApp, Eff.ap, lend, evLit, evMake, evNil, freeze, onto, dropO, elemsV, sized, evCmp, eqT, eqG, minV, evUn, evField, evExtract, evIndexA, evIndexV, evSlice, optInt, fillV, placeOf, thawed, del, isNilSlice, plain, plainL, cellsJ, junkOk, evLook, evMap, evEnter, effEnter, findV, mapOf, keyOk, evFrame, unframe, closed, fixed, sameEs, pickObs, putObs, wit, sameWit, Option.isSome_some, evNilCheck, St.with, setSlots, setObs, wantedD, seqOf, noRange, setAll, Array.size, te, einl, inls, efr]
  · have he' : (e != 0) = true := by simpa using he
    by_cases hne : rs = []
    · subst hne
      simp (maxSteps := 1000000) (implicitDefEqProofs := false) only [he', k1, movedObs, List.length_nil, List.map_nil, Int.lt_irrefl, Try.ntmps3, Try.results3, efc3, fc3, ss, List.replicate, evOp, evPlain, evVal, evMem, St.eval, St.put, St.get, constV, List.set, lenV, sliceOf, arrayOf, fieldsOf, normOf, norm, firstRegion, look, maskFrom, evBin, evIndexS, evLoad, evVar, evStore, evFieldAddr, nameOf, St.alloc, St.drop, killL, kill, killAll, killObs, killOb, upd, cells?, part, retag, retagL, putIn, refFree, refFreeL, isNew, isNewL, Ty.isAgg, splice, idsL, ids, idsLL, reach, depth, St.dropL, resultsV, resultV, ↓reduceIte, Nat.reduceBEq, Nat.reduceAdd, Nat.reduceSub, Nat.reduceMul, Nat.reduceEqDiff, Nat.reduceLeDiff, Nat.reduceLT, effOf, effMem, effStore, effCall, effVar, effLit, effMake, effApp, Eff.ap, lend, evLit, evMake, evNil, freeze, onto, dropO, elemsV, sized, evCmp, eqT, eqG, minV, evUn, evField, evExtract, evIndexA, evIndexV, evSlice, optInt, fillV, placeOf, thawed, del, isNilSlice, plain, plainL, cellsJ, junkOk, evLook, evMap, evEnter, effEnter, findV, mapOf, keyOk, evFrame, unframe, closed, fixed, sameEs, pickObs, putObs, wit, sameWit, Option.isSome_some, evNilCheck, St.with, setSlots, setObs, wantedD, seqOf, noRange, setAll, Array.size, te, einl, inls, efr]
    · rw [movedObs_ne d hne]
      simp (maxSteps := 1000000) (implicitDefEqProofs := false) only [he', k1, List.length_map, Int.lt_irrefl, Try.ntmps3, Try.results3, efc3, fc3, ss, List.replicate, evOp, evPlain, evVal, evMem, St.eval, St.put, St.get, constV, List.set, lenV, sliceOf, arrayOf, fieldsOf, normOf, norm, firstRegion, look, maskFrom, evBin, evIndexS, evLoad, evVar, evStore, evFieldAddr, nameOf, St.alloc, St.drop, killL, kill, killAll, killObs, killOb, upd, cells?, part, retag, retagL, putIn, refFree, refFreeL, isNew, isNewL, Ty.isAgg, splice, idsL, ids, idsLL, reach, depth, St.dropL, resultsV, resultV, ↓reduceIte, Nat.reduceBEq, Nat.reduceAdd, Nat.reduceSub, Nat.reduceMul, Nat.reduceEqDiff, Nat.reduceLeDiff, Nat.reduceLT, effOf, effMem, effStore, effCall, effVar, effLit, effMake, effApp, Eff.ap, lend, evLit, evMake, evNil, freeze, onto, dropO, elemsV, sized, evCmp, eqT, eqG, minV, evUn, evField, evExtract, evIndexA, evIndexV, evSlice, optInt, fillV, placeOf, thawed, del, isNilSlice, plain, plainL, cellsJ, junkOk, evLook, evMap, evEnter, effEnter, findV, mapOf, keyOk, evFrame, unframe, closed, fixed, sameEs, pickObs, putObs, wit, sameWit, Option.isSome_some, evNilCheck, St.with, setSlots, setObs, wantedD, seqOf, noRange, setAll, Array.size, te, einl, inls, efr]
end Go.AM.D
