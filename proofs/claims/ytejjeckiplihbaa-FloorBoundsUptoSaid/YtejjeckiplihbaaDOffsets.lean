/-
Strips, seams, doors and offsets of a room; the sanity check.
-/
import Derived.Test.YtejjeckiplihbaaDDoors
import Derived.Test.YtejjeckiplihbaaDSane
set_option linter.unusedSimpArgs false
set_option maxRecDepth 20000

namespace Go.AM.D
open Go Go.AM Go.Proofs

def stripsV (r : Room) (w o : Int) : List Strip := if dividedE r w o = 0 then stripsM (cellM r.rects) w o else []
def seamsV (r : Room) (w o : Int) : List Int := if dividedE r w o = 0 then seamsM (cellM r.rects) w o else []
def doorV (r : Room) (w o : Int) : Bool := if dividedE r w o = 0 then inDoorM (cellM r.rects) r.doors w o else false
theorem doors_ok {r : Room} (h : roomE r = 0) : (∀ d ∈ r.doors, doorOk d = true) ∧ r.doors.length ≤ 4 := ⟨(roomE_zero h).2.2.2.2, (roomE_zero h).2.2.2.1⟩

set_option maxHeartbeats 4000000 in
theorem c18 (r : Room) (w o : Int) (hr : r.rects.length ≤ 1000000000) (hd : r.doors.length ≤ 1000000000) : (orcω E X0).call 18 [encRoom r, .int .i64 w, .int .i64 o] =
    some (.tup [.sl true ((stripsV r w o).map encStrip), .int .i64 (dividedE r w o)]) := by
  refine call_of rfl fn18 rfl ?_
  have k1 := c58 r w o hr hd
  rw [dividedV_eq] at k1
  unfold stripsV
  by_cases h : dividedE r w o = 0
  · rw [if_pos h] at k1 ⊢
    rw [h]
    obtain ⟨h1, h2, h3⟩ := dividedE_zero h
    have k2 := c59 (cells_inside (roomE_all h1)) w o h2 h3
    obtain ⟨rs, ds⟩ := r
    dsimp only at k1 k2 ⊢
    unfold encRoom at k1 ⊢
    simp (maxSteps := 1000000) (implicitDefEqProofs := false) only [Try.ntmps18, Try.results18, efc18, k1, k2, bne_self_eq_false, ss, sd, evOp, evPlain, evVal, evMem, St.get, sliceOf, arrayOf, fieldsOf, normOf, norm, look, evVar, evFieldAddr, nameOf, St.alloc, St.drop, killOb, part, splice, depth, resultsV, ↓reduceIte, Nat.reduceBEq, Nat.reduceAdd, Nat.reduceSub, Nat.reduceMul, Nat.reduceEqDiff, Nat.reduceLeDiff, Nat.reduceLT, effOf, effMem, effVar, effLit, effMake, effApp, lend, evLit, evNil, freeze, evField, evIndexT, orNil, evSlice, placeOf, evMap, mapOf, keyOk, evFrame, closed, fixed, sameEs, wit, Option.isSome_some, St.with, wantedD, Array.size, te, einl, inls, efr]
  · rw [if_neg h] at k1 ⊢
    obtain ⟨rs, ds⟩ := r
    have h' : (dividedE ⟨rs, ds⟩ w o != 0) = true := by simpa using h
    generalize dividedE ⟨rs, ds⟩ w o = e at *
    unfold encRoom at k1 ⊢
    simp (maxSteps := 1000000) (implicitDefEqProofs := false) only [Try.ntmps18, Try.results18, efc18, k1, h', List.map_nil, ss, sd, evOp, evPlain, evVal, evMem, St.get, sliceOf, arrayOf, fieldsOf, normOf, norm, look, evVar, evFieldAddr, nameOf, St.alloc, St.drop, killOb, part, splice, depth, resultsV, ↓reduceIte, Nat.reduceBEq, Nat.reduceAdd, Nat.reduceSub, Nat.reduceMul, Nat.reduceEqDiff, Nat.reduceLeDiff, Nat.reduceLT, effOf, effMem, effVar, effLit, effMake, effApp, lend, evLit, evNil, freeze, evField, evIndexT, orNil, evSlice, placeOf, evMap, mapOf, keyOk, evFrame, closed, fixed, sameEs, wit, Option.isSome_some, St.with, wantedD, Array.size, te, einl, inls, efr]

set_option maxHeartbeats 4000000 in
theorem c29 (r : Room) (w o : Int) (hr : r.rects.length ≤ 1000000000) (hd : r.doors.length ≤ 1000000000) : (orcω E X0).call 29 [encRoom r, .int .i64 w, .int .i64 o] =
    some (.tup [.sl true ((stripsV r w o).map encStrip), .int .i64 (dividedE r w o)]) := by
  refine call_of rfl fn29 rfl ?_
  have k1 := c73 r w o hr hd
  unfold stripsV
  by_cases h : dividedE r w o = 0
  · rw [if_pos h]
    rw [h] at k1 ⊢
    obtain ⟨h1, h2, h3⟩ := dividedE_zero h
    have k2 := c75 r (roomE_all h1) hr w o h2 h3
    obtain ⟨rs, ds⟩ := r
    dsimp only at k1 k2 ⊢
    unfold encRoom at k1 k2 ⊢
    simp (maxSteps := 1000000) (implicitDefEqProofs := false) only [Try.ntmps29, Try.results29, efc29, k1, k2, bne_self_eq_false, ss, sd, evOp, evPlain, evVal, evMem, St.get, sliceOf, arrayOf, fieldsOf, normOf, norm, look, evVar, evFieldAddr, nameOf, St.alloc, St.drop, killOb, part, splice, depth, resultsV, ↓reduceIte, Nat.reduceBEq, Nat.reduceAdd, Nat.reduceSub, Nat.reduceMul, Nat.reduceEqDiff, Nat.reduceLeDiff, Nat.reduceLT, effOf, effMem, effVar, effLit, effMake, effApp, lend, evLit, evNil, freeze, evField, evIndexT, orNil, evSlice, placeOf, evMap, mapOf, keyOk, evFrame, closed, fixed, sameEs, wit, Option.isSome_some, St.with, wantedD, Array.size, te, einl, inls, efr]
  · rw [if_neg h]
    obtain ⟨rs, ds⟩ := r
    have h' : (dividedE ⟨rs, ds⟩ w o != 0) = true := by simpa using h
    generalize dividedE ⟨rs, ds⟩ w o = e at *
    unfold encRoom at k1 ⊢
    simp (maxSteps := 1000000) (implicitDefEqProofs := false) only [Try.ntmps29, Try.results29, efc29, k1, h', List.map_nil, ss, sd, evOp, evPlain, evVal, evMem, St.get, sliceOf, arrayOf, fieldsOf, normOf, norm, look, evVar, evFieldAddr, nameOf, St.alloc, St.drop, killOb, part, splice, depth, resultsV, ↓reduceIte, Nat.reduceBEq, Nat.reduceAdd, Nat.reduceSub, Nat.reduceMul, Nat.reduceEqDiff, Nat.reduceLeDiff, Nat.reduceLT, effOf, effMem, effVar, effLit, effMake, effApp, lend, evLit, evNil, freeze, evField, evIndexT, orNil, evSlice, placeOf, evMap, mapOf, keyOk, evFrame, closed, fixed, sameEs, wit, Option.isSome_some, St.with, wantedD, Array.size, te, einl, inls, efr]

set_option maxHeartbeats 4000000 in
theorem c30 (r : Room) (w o : Int) (hr : r.rects.length ≤ 1000000000) (hd : r.doors.length ≤ 1000000000) : (orcω E X0).call 30 [encRoom r, .int .i64 w, .int .i64 o] =
    some (.tup [.sl true ((seamsV r w o).map vI), .int .i64 (dividedE r w o)]) := by
  refine call_of rfl fn30 rfl ?_
  have k1 := c58 r w o hr hd
  rw [dividedV_eq] at k1
  unfold seamsV
  by_cases h : dividedE r w o = 0
  · rw [if_pos h] at k1 ⊢
    rw [h]
    obtain ⟨h1, h2, h3⟩ := dividedE_zero h
    have k2 := c76 (cells_inside (roomE_all h1)) w o h2 h3
    obtain ⟨rs, ds⟩ := r
    dsimp only at k1 k2 ⊢
    unfold encRoom at k1 ⊢
    simp (maxSteps := 1000000) (implicitDefEqProofs := false) only [Try.ntmps30, Try.results30, efc30, k1, k2, bne_self_eq_false, ss, sd, evOp, evPlain, evVal, evMem, St.get, sliceOf, arrayOf, fieldsOf, normOf, norm, look, evVar, evFieldAddr, nameOf, St.alloc, St.drop, killOb, part, splice, depth, resultsV, ↓reduceIte, Nat.reduceBEq, Nat.reduceAdd, Nat.reduceSub, Nat.reduceMul, Nat.reduceEqDiff, Nat.reduceLeDiff, Nat.reduceLT, effOf, effMem, effVar, effLit, effMake, effApp, lend, evLit, evNil, freeze, evField, evIndexT, orNil, evSlice, placeOf, evMap, mapOf, keyOk, evFrame, closed, fixed, sameEs, wit, Option.isSome_some, St.with, wantedD, Array.size, te, einl, inls, efr]
  · rw [if_neg h] at k1 ⊢
    obtain ⟨rs, ds⟩ := r
    have h' : (dividedE ⟨rs, ds⟩ w o != 0) = true := by simpa using h
    generalize dividedE ⟨rs, ds⟩ w o = e at *
    unfold encRoom at k1 ⊢
    simp (maxSteps := 1000000) (implicitDefEqProofs := false) only [Try.ntmps30, Try.results30, efc30, k1, h', List.map_nil, ss, sd, evOp, evPlain, evVal, evMem, St.get, sliceOf, arrayOf, fieldsOf, normOf, norm, look, evVar, evFieldAddr, nameOf, St.alloc, St.drop, killOb, part, splice, depth, resultsV, ↓reduceIte, Nat.reduceBEq, Nat.reduceAdd, Nat.reduceSub, Nat.reduceMul, Nat.reduceEqDiff, Nat.reduceLeDiff, Nat.reduceLT, effOf, effMem, effVar, effLit, effMake, effApp, lend, evLit, evNil, freeze, evField, evIndexT, orNil, evSlice, placeOf, evMap, mapOf, keyOk, evFrame, closed, fixed, sameEs, wit, Option.isSome_some, St.with, wantedD, Array.size, te, einl, inls, efr]

set_option maxHeartbeats 4000000 in
theorem c31 (r : Room) (w o : Int) (hr : r.rects.length ≤ 1000000000) (hd : r.doors.length ≤ 1000000000) : (orcω E X0).call 31 [encRoom r, .int .i64 w, .int .i64 o] =
    some (.tup [.sl true ((seamsV r w o).map vI), .int .i64 (dividedE r w o)]) := by
  refine call_of rfl fn31 rfl ?_
  have k1 := c73 r w o hr hd
  unfold seamsV
  by_cases h : dividedE r w o = 0
  · rw [if_pos h]
    rw [h] at k1 ⊢
    obtain ⟨h1, h2, h3⟩ := dividedE_zero h
    have k2 := c77 r (roomE_all h1) hr w o h2 h3
    obtain ⟨rs, ds⟩ := r
    dsimp only at k1 k2 ⊢
    unfold encRoom at k1 k2 ⊢
    simp (maxSteps := 1000000) (implicitDefEqProofs := false) only [Try.ntmps31, Try.results31, efc31, k1, k2, bne_self_eq_false, ss, sd, evOp, evPlain, evVal, evMem, St.get, sliceOf, arrayOf, fieldsOf, normOf, norm, look, evVar, evFieldAddr, nameOf, St.alloc, St.drop, killOb, part, splice, depth, resultsV, ↓reduceIte, Nat.reduceBEq, Nat.reduceAdd, Nat.reduceSub, Nat.reduceMul, Nat.reduceEqDiff, Nat.reduceLeDiff, Nat.reduceLT, effOf, effMem, effVar, effLit, effMake, effApp, lend, evLit, evNil, freeze, evField, evIndexT, orNil, evSlice, placeOf, evMap, mapOf, keyOk, evFrame, closed, fixed, sameEs, wit, Option.isSome_some, St.with, wantedD, Array.size, te, einl, inls, efr]
  · rw [if_neg h]
    obtain ⟨rs, ds⟩ := r
    have h' : (dividedE ⟨rs, ds⟩ w o != 0) = true := by simpa using h
    generalize dividedE ⟨rs, ds⟩ w o = e at *
    unfold encRoom at k1 ⊢
    simp (maxSteps := 1000000) (implicitDefEqProofs := false) only [Try.ntmps31, Try.results31, efc31, k1, h', List.map_nil, ss, sd, evOp, evPlain, evVal, evMem, St.get, sliceOf, arrayOf, fieldsOf, normOf, norm, look, evVar, evFieldAddr, nameOf, St.alloc, St.drop, killOb, part, splice, depth, resultsV, ↓reduceIte, Nat.reduceBEq, Nat.reduceAdd, Nat.reduceSub, Nat.reduceMul, Nat.reduceEqDiff, Nat.reduceLeDiff, Nat.reduceLT, effOf, effMem, effVar, effLit, effMake, effApp, lend, evLit, evNil, freeze, evField, evIndexT, orNil, evSlice, placeOf, evMap, mapOf, keyOk, evFrame, closed, fixed, sameEs, wit, Option.isSome_some, St.with, wantedD, Array.size, te, einl, inls, efr]

set_option maxHeartbeats 4000000 in
theorem c32 (r : Room) (w o : Int) (hr : r.rects.length ≤ 1000000000) (hd : r.doors.length ≤ 1000000000) : (orcω E X0).call 32 [encRoom r, .int .i64 w, .int .i64 o] =
    some (.tup [.bool (doorV r w o), .int .i64 (dividedE r w o)]) := by
  refine call_of rfl fn32 rfl ?_
  have k1 := c58 r w o hr hd
  rw [dividedV_eq] at k1
  unfold doorV
  by_cases h : dividedE r w o = 0
  · rw [if_pos h] at k1 ⊢
    rw [h]
    obtain ⟨h1, h2, h3⟩ := dividedE_zero h
    have k2 := c78 (cells_inside (roomE_all h1)) r.doors (doors_ok h1).1 (doors_ok h1).2 w o h2 h3
    obtain ⟨rs, ds⟩ := r
    dsimp only at k1 k2 ⊢
    unfold encRoom at k1 ⊢
    simp (maxSteps := 1000000) (implicitDefEqProofs := false) only [Try.ntmps32, Try.results32, efc32, k1, k2, bne_self_eq_false, ss, sd, evOp, evPlain, evVal, evMem, St.get, sliceOf, arrayOf, fieldsOf, normOf, norm, look, evVar, evFieldAddr, nameOf, St.alloc, St.drop, killOb, part, splice, depth, resultsV, ↓reduceIte, Nat.reduceBEq, Nat.reduceAdd, Nat.reduceSub, Nat.reduceMul, Nat.reduceEqDiff, Nat.reduceLeDiff, Nat.reduceLT, effOf, effMem, effVar, effLit, effMake, effApp, lend, evLit, evNil, freeze, evField, evIndexT, orNil, evSlice, placeOf, evMap, mapOf, keyOk, evFrame, closed, fixed, sameEs, wit, Option.isSome_some, St.with, wantedD, Array.size, te, einl, inls, efr]
  · rw [if_neg h] at k1 ⊢
    obtain ⟨rs, ds⟩ := r
    have h' : (dividedE ⟨rs, ds⟩ w o != 0) = true := by simpa using h
    generalize dividedE ⟨rs, ds⟩ w o = e at *
    unfold encRoom at k1 ⊢
    simp (maxSteps := 1000000) (implicitDefEqProofs := false) only [Try.ntmps32, Try.results32, efc32, k1, h', ss, sd, evOp, evPlain, evVal, evMem, St.get, sliceOf, arrayOf, fieldsOf, normOf, norm, look, evVar, evFieldAddr, nameOf, St.alloc, St.drop, killOb, part, splice, depth, resultsV, ↓reduceIte, Nat.reduceBEq, Nat.reduceAdd, Nat.reduceSub, Nat.reduceMul, Nat.reduceEqDiff, Nat.reduceLeDiff, Nat.reduceLT, effOf, effMem, effVar, effLit, effMake, effApp, lend, evLit, evNil, freeze, evField, evIndexT, orNil, evSlice, placeOf, evMap, mapOf, keyOk, evFrame, closed, fixed, sameEs, wit, Option.isSome_some, St.with, wantedD, Array.size, te, einl, inls, efr]

set_option maxHeartbeats 4000000 in
theorem c33 (r : Room) (w o : Int) (hr : r.rects.length ≤ 1000000000) (hd : r.doors.length ≤ 1000000000) : (orcω E X0).call 33 [encRoom r, .int .i64 w, .int .i64 o] =
    some (.tup [.bool (doorV r w o), .int .i64 (dividedE r w o)]) := by
  refine call_of rfl fn33 rfl ?_
  have k1 := c73 r w o hr hd
  unfold doorV
  by_cases h : dividedE r w o = 0
  · rw [if_pos h]
    rw [h] at k1 ⊢
    obtain ⟨h1, h2, h3⟩ := dividedE_zero h
    have k2 := c79 r (roomE_all h1) hr (doors_ok h1).1 (doors_ok h1).2 w o h2 h3
    obtain ⟨rs, ds⟩ := r
    dsimp only at k1 k2 ⊢
    unfold encRoom at k1 k2 ⊢
    simp (maxSteps := 1000000) (implicitDefEqProofs := false) only [Try.ntmps33, Try.results33, efc33, k1, k2, beq_self_eq_true, ss, sd, evOp, evPlain, evVal, evMem, St.get, sliceOf, arrayOf, fieldsOf, normOf, norm, look, evVar, evFieldAddr, nameOf, St.alloc, St.drop, killOb, part, splice, depth, resultsV, ↓reduceIte, Nat.reduceBEq, Nat.reduceAdd, Nat.reduceSub, Nat.reduceMul, Nat.reduceEqDiff, Nat.reduceLeDiff, Nat.reduceLT, effOf, effMem, effVar, effLit, effMake, effApp, lend, evLit, evNil, freeze, evField, evIndexT, orNil, evSlice, placeOf, evMap, mapOf, keyOk, evFrame, closed, fixed, sameEs, wit, Option.isSome_some, St.with, wantedD, Array.size, te, einl, inls, efr]
  · rw [if_neg h]
    obtain ⟨rs, ds⟩ := r
    have h' : (dividedE ⟨rs, ds⟩ w o == 0) = false := by simpa using h
    generalize dividedE ⟨rs, ds⟩ w o = e at *
    unfold encRoom at k1 ⊢
    simp (maxSteps := 1000000) (implicitDefEqProofs := false) only [Try.ntmps33, Try.results33, efc33, k1, h', ss, sd, evOp, evPlain, evVal, evMem, St.get, sliceOf, arrayOf, fieldsOf, normOf, norm, look, evVar, evFieldAddr, nameOf, St.alloc, St.drop, killOb, part, splice, depth, resultsV, ↓reduceIte, Nat.reduceBEq, Nat.reduceAdd, Nat.reduceSub, Nat.reduceMul, Nat.reduceEqDiff, Nat.reduceLeDiff, Nat.reduceLT, effOf, effMem, effVar, effLit, effMake, effApp, lend, evLit, evNil, freeze, evField, evIndexT, orNil, evSlice, placeOf, evMap, mapOf, keyOk, evFrame, closed, fixed, sameEs, wit, Option.isSome_some, St.with, wantedD, Array.size, te, einl, inls, efr]

def bestV (r : Room) (w : Int) : Int × Int × Bool := if dividedE r w 0 = 0 then bestTo (cellM r.rects) r.doors w w.toNat else (0, 0, false)
def encBest (r : Room) (w : Int) : V := .tup [.int .i64 (bestV r w).1, .int .i64 (bestV r w).2.1, .bool (bestV r w).2.2, .int .i64 (dividedE r w 0)]
theorem bestTo_door {f : Int → Int → Bool} {ds : List Door} {w : Int} {k : Nat} (h : inDoorM f ds w k = true) : bestTo f ds w (k + 1) = bestTo f ds w k := by
  show (if _ then _ else _) = _
  rw [if_pos h]
theorem bestTo_new {f : Int → Int → Bool} {ds : List Door} {w : Int} {k : Nat} (h : inDoorM f ds w k = false) (h2 : (bestTo f ds w k).2.2 = false ∨ lenM (stripsM f w k) < (bestTo f ds w k).2.1) : bestTo f ds w (k + 1) = ((k : Int), lenM (stripsM f w k), true) := by
  show (if _ then _ else _) = _
  rw [if_neg (by rw [h]; decide), if_pos h2]
theorem bestTo_old {f : Int → Int → Bool} {ds : List Door} {w : Int} {k : Nat} (h : inDoorM f ds w k = false) (h2 : (bestTo f ds w k).2.2 = true) (h3 : ¬ lenM (stripsM f w k) < (bestTo f ds w k).2.1) : bestTo f ds w (k + 1) = bestTo f ds w k := by
  show (if _ then _ else _) = _
  rw [if_neg (by rw [h]; decide), if_neg (by rw [h2]; simp; omega)]

set_option maxRecDepth 20000 in
set_option maxHeartbeats 8000000 in
theorem c36 (r : Room) (w : Int) (hr : r.rects.length ≤ 1000000000) (hd : r.doors.length ≤ 1000000000) : (orcω E X0).call 36 [encRoom r, .int .i64 w] = some (encBest r w) := by
  refine call_of rfl fn36 rfl ?_
  have k1 := c58 r w 0 hr hd
  rw [dividedV_eq] at k1
  unfold encBest bestV
  by_cases h : dividedE r w 0 = 0
  · rw [if_pos h] at k1 ⊢
    rw [h]
    obtain ⟨h1, h2, h3⟩ := dividedE_zero h
    have hf := cells_inside (roomE_all h1)
    have k2 := fun o ho => c59 hf w o h2 ho
    have k3 := fun o ho => c78 hf r.doors (doors_ok h1).1 (doors_ok h1).2 w o h2 ho
    obtain ⟨rs, ds⟩ := r
    dsimp only at k1 k2 k3 ⊢
    generalize cellM rs = f at *
    unfold encRoom at k1 ⊢
    simp (maxSteps := 1000000) (implicitDefEqProofs := false) only [Try.ntmps36, Try.results36, efc36, fc36, k1, bne_self_eq_false, ss, sd, evOp, evPlain, evVal, evMem, St.get, sliceOf, arrayOf, fieldsOf, normOf, norm, look, evVar, evFieldAddr, nameOf, St.alloc, St.drop, killOb, part, splice, depth, resultsV, ↓reduceIte, Nat.reduceBEq, Nat.reduceAdd, Nat.reduceSub, Nat.reduceMul, Nat.reduceEqDiff, Nat.reduceLeDiff, Nat.reduceLT, effOf, effMem, effVar, effLit, effMake, effApp, lend, evLit, evNil, freeze, evField, evIndexT, orNil, evSlice, placeOf, evMap, mapOf, keyOk, evFrame, closed, fixed, sameEs, wit, Option.isSome_some, St.with, wantedD, Array.size, te, einl, inls, efr]
    generalize hr : loopAt _ _ _ _ _ _ = r; revert r
    refine loop_nat w.toNat (fun i _ => [(4, .int .i64 (bestTo f ds w i).1), (5, .int .i64 (bestTo f ds w i).2.1), (6, .bool (bestTo f ds w i).2.2), (21, .int .i64 (i : Nat))]) (fun _ _ => []) (fun _ (_ : Unit) => True) () (by omega) (by simp (maxSteps := 1000000) (implicitDefEqProofs := false) only [bestTo, ss, sd, evOp, evPlain, evVal, evMem, St.get, sliceOf, arrayOf, fieldsOf, normOf, norm, look, evVar, evFieldAddr, nameOf, St.alloc, St.drop, killOb, part, splice, depth, resultsV, ↓reduceIte, Nat.reduceBEq, Nat.reduceAdd, Nat.reduceSub, Nat.reduceMul, Nat.reduceEqDiff, Nat.reduceLeDiff, Nat.reduceLT, effOf, effMem, effVar, effLit, effMake, effApp, lend, evLit, evNil, freeze, evField, evIndexT, orNil, evSlice, placeOf, evMap, mapOf, keyOk, evFrame, closed, fixed, sameEs, wit, Option.isSome_some, St.with, wantedD, Array.size, te, einl, inls, efr]) trivial (fun _ _ => ?_) (fun i _ _ a1 a2 a3 => ?_)
    · have c1 : ¬ ((w.toNat : Nat) : Int) < w := by omega
      simp (maxSteps := 1000000) (implicitDefEqProofs := false) only [c1, Try.ntmps36, Try.results36, efc36, fc36, ss, sd, evOp, evPlain, evVal, evMem, St.get, sliceOf, arrayOf, fieldsOf, normOf, norm, look, evVar, evFieldAddr, nameOf, St.alloc, St.drop, killOb, part, splice, depth, resultsV, ↓reduceIte, Nat.reduceBEq, Nat.reduceAdd, Nat.reduceSub, Nat.reduceMul, Nat.reduceEqDiff, Nat.reduceLeDiff, Nat.reduceLT, effOf, effMem, effVar, effLit, effMake, effApp, lend, evLit, evNil, freeze, evField, evIndexT, orNil, evSlice, placeOf, evMap, mapOf, keyOk, evFrame, closed, fixed, sameEs, wit, Option.isSome_some, St.with, wantedD, Array.size, te, einl, inls, efr]
    · have a4 : (i : Int) < w := by omega
      have k4 := k2 i (by omega)
      have k5 := k3 i (by omega)
      have k6 := c80 (stripsM f w i) strips_ok (by have := strips_len (f := f) (w := w) (o := i); omega)
      cases hdo : inDoorM f ds w i with
      | true =>
        rw [hdo] at k5
        have e1 := bestTo_door hdo
        simp (maxSteps := 1000000) (implicitDefEqProofs := false) only [a3, a4, k5, e1, ss, sd, evOp, evPlain, evVal, evMem, St.get, sliceOf, arrayOf, fieldsOf, normOf, norm, look, evVar, evFieldAddr, nameOf, St.alloc, St.drop, killOb, part, splice, depth, resultsV, ↓reduceIte, Nat.reduceBEq, Nat.reduceAdd, Nat.reduceSub, Nat.reduceMul, Nat.reduceEqDiff, Nat.reduceLeDiff, Nat.reduceLT, effOf, effMem, effVar, effLit, effMake, effApp, lend, evLit, evNil, freeze, evField, evIndexT, orNil, evSlice, placeOf, evMap, mapOf, keyOk, evFrame, closed, fixed, sameEs, wit, Option.isSome_some, St.with, wantedD, Array.size, te, einl, inls, efr]
        (first | exact ⟨(), trivial⟩ | refine ⟨(), ?_, trivial⟩ | skip)
      | false =>
        rw [hdo] at k5
        have e1 := bestTo_new hdo
        have e2 := bestTo_old hdo
        generalize stripsM f w i = l at *
        generalize lenM l = n at *
        generalize bestTo f ds w (i + 1) = b' at *
        generalize bestTo f ds w i = b at *
        obtain ⟨b1, b2, b3⟩ := b
        dsimp only at e1 e2
        cases b3 with
        | false =>
          have e3 := e1 (Or.inl rfl)
          subst e3
          simp (maxSteps := 1000000) (implicitDefEqProofs := false) only [a3, a4, k4, k5, k6, ss, sd, evOp, evPlain, evVal, evMem, St.get, sliceOf, arrayOf, fieldsOf, normOf, norm, look, evVar, evFieldAddr, nameOf, St.alloc, St.drop, killOb, part, splice, depth, resultsV, ↓reduceIte, Nat.reduceBEq, Nat.reduceAdd, Nat.reduceSub, Nat.reduceMul, Nat.reduceEqDiff, Nat.reduceLeDiff, Nat.reduceLT, effOf, effMem, effVar, effLit, effMake, effApp, lend, evLit, evNil, freeze, evField, evIndexT, orNil, evSlice, placeOf, evMap, mapOf, keyOk, evFrame, closed, fixed, sameEs, wit, Option.isSome_some, St.with, wantedD, Array.size, te, einl, inls, efr]
          (first | exact ⟨(), trivial⟩ | refine ⟨(), ?_, trivial⟩ | skip)
        | true =>
          by_cases hlt : n < b2
          · have e3 := e1 (Or.inr hlt)
            subst e3
            simp (maxSteps := 1000000) (implicitDefEqProofs := false) only [a3, a4, k4, k5, k6, hlt, ss, sd, evOp, evPlain, evVal, evMem, St.get, sliceOf, arrayOf, fieldsOf, normOf, norm, look, evVar, evFieldAddr, nameOf, St.alloc, St.drop, killOb, part, splice, depth, resultsV, ↓reduceIte, Nat.reduceBEq, Nat.reduceAdd, Nat.reduceSub, Nat.reduceMul, Nat.reduceEqDiff, Nat.reduceLeDiff, Nat.reduceLT, effOf, effMem, effVar, effLit, effMake, effApp, lend, evLit, evNil, freeze, evField, evIndexT, orNil, evSlice, placeOf, evMap, mapOf, keyOk, evFrame, closed, fixed, sameEs, wit, Option.isSome_some, St.with, wantedD, Array.size, te, einl, inls, efr]
            (first | exact ⟨(), trivial⟩ | refine ⟨(), ?_, trivial⟩ | skip)
          · have e3 := e2 rfl hlt
            subst e3
            simp (maxSteps := 1000000) (implicitDefEqProofs := false) only [a3, a4, k4, k5, k6, hlt, ss, sd, evOp, evPlain, evVal, evMem, St.get, sliceOf, arrayOf, fieldsOf, normOf, norm, look, evVar, evFieldAddr, nameOf, St.alloc, St.drop, killOb, part, splice, depth, resultsV, ↓reduceIte, Nat.reduceBEq, Nat.reduceAdd, Nat.reduceSub, Nat.reduceMul, Nat.reduceEqDiff, Nat.reduceLeDiff, Nat.reduceLT, effOf, effMem, effVar, effLit, effMake, effApp, lend, evLit, evNil, freeze, evField, evIndexT, orNil, evSlice, placeOf, evMap, mapOf, keyOk, evFrame, closed, fixed, sameEs, wit, Option.isSome_some, St.with, wantedD, Array.size, te, einl, inls, efr]
            (first | exact ⟨(), trivial⟩ | refine ⟨(), ?_, trivial⟩ | skip)
  · rw [if_neg h] at k1 ⊢
    obtain ⟨rs, ds⟩ := r
    have h' : (dividedE ⟨rs, ds⟩ w 0 != 0) = true := by simpa using h
    generalize dividedE ⟨rs, ds⟩ w 0 = e at *
    unfold encRoom at k1 ⊢
    simp (maxSteps := 1000000) (implicitDefEqProofs := false) only [Try.ntmps36, Try.results36, efc36, fc36, k1, h', ss, sd, evOp, evPlain, evVal, evMem, St.get, sliceOf, arrayOf, fieldsOf, normOf, norm, look, evVar, evFieldAddr, nameOf, St.alloc, St.drop, killOb, part, splice, depth, resultsV, ↓reduceIte, Nat.reduceBEq, Nat.reduceAdd, Nat.reduceSub, Nat.reduceMul, Nat.reduceEqDiff, Nat.reduceLeDiff, Nat.reduceLT, effOf, effMem, effVar, effLit, effMake, effApp, lend, evLit, evNil, freeze, evField, evIndexT, orNil, evSlice, placeOf, evMap, mapOf, keyOk, evFrame, closed, fixed, sameEs, wit, Option.isSome_some, St.with, wantedD, Array.size, te, einl, inls, efr]

set_option maxRecDepth 20000 in
set_option maxHeartbeats 8000000 in
theorem c37 (r : Room) (w : Int) (hr : r.rects.length ≤ 1000000000) (hd : r.doors.length ≤ 1000000000) : (orcω E X0).call 37 [encRoom r, .int .i64 w] = some (encBest r w) := by
  refine call_of rfl fn37 rfl ?_
  have k1 := c73 r w 0 hr hd
  unfold encBest bestV
  by_cases h : dividedE r w 0 = 0
  · rw [if_pos h]
    rw [h] at k1 ⊢
    obtain ⟨h1, h2, h3⟩ := dividedE_zero h
    have k2 := fun o ho => c75 r (roomE_all h1) hr w o h2 ho
    have k3 := fun o ho => c79 r (roomE_all h1) hr (doors_ok h1).1 (doors_ok h1).2 w o h2 ho
    obtain ⟨rs, ds⟩ := r
    dsimp only at k1 k2 k3 ⊢
    generalize cellM rs = f at *
    unfold encRoom at k1 k2 k3 ⊢
    simp (maxSteps := 1000000) (implicitDefEqProofs := false) only [Try.ntmps37, Try.results37, efc37, fc37, k1, bne_self_eq_false, ss, sd, evOp, evPlain, evVal, evMem, St.get, sliceOf, arrayOf, fieldsOf, normOf, norm, look, evVar, evFieldAddr, nameOf, St.alloc, St.drop, killOb, part, splice, depth, resultsV, ↓reduceIte, Nat.reduceBEq, Nat.reduceAdd, Nat.reduceSub, Nat.reduceMul, Nat.reduceEqDiff, Nat.reduceLeDiff, Nat.reduceLT, effOf, effMem, effVar, effLit, effMake, effApp, lend, evLit, evNil, freeze, evField, evIndexT, orNil, evSlice, placeOf, evMap, mapOf, keyOk, evFrame, closed, fixed, sameEs, wit, Option.isSome_some, St.with, wantedD, Array.size, te, einl, inls, efr]
    generalize hr : loopAt _ _ _ _ _ _ = r; revert r
    refine loop_nat w.toNat (fun i _ => [(9, .int .i64 (bestTo f ds w i).1), (10, .int .i64 (bestTo f ds w i).2.1), (11, .bool (bestTo f ds w i).2.2), (12, .int .i64 (i : Nat))]) (fun _ _ => []) (fun _ (_ : Unit) => True) () (by omega) (by simp (maxSteps := 1000000) (implicitDefEqProofs := false) only [bestTo, ss, sd, evOp, evPlain, evVal, evMem, St.get, sliceOf, arrayOf, fieldsOf, normOf, norm, look, evVar, evFieldAddr, nameOf, St.alloc, St.drop, killOb, part, splice, depth, resultsV, ↓reduceIte, Nat.reduceBEq, Nat.reduceAdd, Nat.reduceSub, Nat.reduceMul, Nat.reduceEqDiff, Nat.reduceLeDiff, Nat.reduceLT, effOf, effMem, effVar, effLit, effMake, effApp, lend, evLit, evNil, freeze, evField, evIndexT, orNil, evSlice, placeOf, evMap, mapOf, keyOk, evFrame, closed, fixed, sameEs, wit, Option.isSome_some, St.with, wantedD, Array.size, te, einl, inls, efr]) trivial (fun _ _ => ?_) (fun i _ _ a1 a2 a3 => ?_)
    · have c1 : ¬ ((w.toNat : Nat) : Int) < w := by omega
      simp (maxSteps := 1000000) (implicitDefEqProofs := false) only [c1, Try.ntmps37, Try.results37, efc37, fc37, ss, sd, evOp, evPlain, evVal, evMem, St.get, sliceOf, arrayOf, fieldsOf, normOf, norm, look, evVar, evFieldAddr, nameOf, St.alloc, St.drop, killOb, part, splice, depth, resultsV, ↓reduceIte, Nat.reduceBEq, Nat.reduceAdd, Nat.reduceSub, Nat.reduceMul, Nat.reduceEqDiff, Nat.reduceLeDiff, Nat.reduceLT, effOf, effMem, effVar, effLit, effMake, effApp, lend, evLit, evNil, freeze, evField, evIndexT, orNil, evSlice, placeOf, evMap, mapOf, keyOk, evFrame, closed, fixed, sameEs, wit, Option.isSome_some, St.with, wantedD, Array.size, te, einl, inls, efr]
    · have a4 : (i : Int) < w := by omega
      have k4 := k2 i (by omega)
      have k5 := k3 i (by omega)
      have k6 := c81 (stripsM f w i) strips_ok (by have := strips_len (f := f) (w := w) (o := i); omega)
      cases hdo : inDoorM f ds w i with
      | true =>
        rw [hdo] at k5
        have e1 := bestTo_door hdo
        simp (maxSteps := 1000000) (implicitDefEqProofs := false) only [a3, a4, k5, e1, ss, sd, evOp, evPlain, evVal, evMem, St.get, sliceOf, arrayOf, fieldsOf, normOf, norm, look, evVar, evFieldAddr, nameOf, St.alloc, St.drop, killOb, part, splice, depth, resultsV, ↓reduceIte, Nat.reduceBEq, Nat.reduceAdd, Nat.reduceSub, Nat.reduceMul, Nat.reduceEqDiff, Nat.reduceLeDiff, Nat.reduceLT, effOf, effMem, effVar, effLit, effMake, effApp, lend, evLit, evNil, freeze, evField, evIndexT, orNil, evSlice, placeOf, evMap, mapOf, keyOk, evFrame, closed, fixed, sameEs, wit, Option.isSome_some, St.with, wantedD, Array.size, te, einl, inls, efr]
        (first | exact ⟨(), trivial⟩ | refine ⟨(), ?_, trivial⟩ | skip)
      | false =>
        rw [hdo] at k5
        have e1 := bestTo_new hdo
        have e2 := bestTo_old hdo
        generalize stripsM f w i = l at *
        generalize lenM l = n at *
        generalize bestTo f ds w (i + 1) = b' at *
        generalize bestTo f ds w i = b at *
        obtain ⟨b1, b2, b3⟩ := b
        dsimp only at e1 e2
        cases b3 with
        | false =>
          have e3 := e1 (Or.inl rfl)
          subst e3
          simp (maxSteps := 1000000) (implicitDefEqProofs := false) only [a3, a4, k4, k5, k6, ss, sd, evOp, evPlain, evVal, evMem, St.get, sliceOf, arrayOf, fieldsOf, normOf, norm, look, evVar, evFieldAddr, nameOf, St.alloc, St.drop, killOb, part, splice, depth, resultsV, ↓reduceIte, Nat.reduceBEq, Nat.reduceAdd, Nat.reduceSub, Nat.reduceMul, Nat.reduceEqDiff, Nat.reduceLeDiff, Nat.reduceLT, effOf, effMem, effVar, effLit, effMake, effApp, lend, evLit, evNil, freeze, evField, evIndexT, orNil, evSlice, placeOf, evMap, mapOf, keyOk, evFrame, closed, fixed, sameEs, wit, Option.isSome_some, St.with, wantedD, Array.size, te, einl, inls, efr]
          (first | exact ⟨(), trivial⟩ | refine ⟨(), ?_, trivial⟩ | skip)
        | true =>
          by_cases hlt : n < b2
          · have e3 := e1 (Or.inr hlt)
            subst e3
            simp (maxSteps := 1000000) (implicitDefEqProofs := false) only [a3, a4, k4, k5, k6, hlt, ss, sd, evOp, evPlain, evVal, evMem, St.get, sliceOf, arrayOf, fieldsOf, normOf, norm, look, evVar, evFieldAddr, nameOf, St.alloc, St.drop, killOb, part, splice, depth, resultsV, ↓reduceIte, Nat.reduceBEq, Nat.reduceAdd, Nat.reduceSub, Nat.reduceMul, Nat.reduceEqDiff, Nat.reduceLeDiff, Nat.reduceLT, effOf, effMem, effVar, effLit, effMake, effApp, lend, evLit, evNil, freeze, evField, evIndexT, orNil, evSlice, placeOf, evMap, mapOf, keyOk, evFrame, closed, fixed, sameEs, wit, Option.isSome_some, St.with, wantedD, Array.size, te, einl, inls, efr]
            (first | exact ⟨(), trivial⟩ | refine ⟨(), ?_, trivial⟩ | skip)
          · have e3 := e2 rfl hlt
            subst e3
            simp (maxSteps := 1000000) (implicitDefEqProofs := false) only [a3, a4, k4, k5, k6, hlt, ss, sd, evOp, evPlain, evVal, evMem, St.get, sliceOf, arrayOf, fieldsOf, normOf, norm, look, evVar, evFieldAddr, nameOf, St.alloc, St.drop, killOb, part, splice, depth, resultsV, ↓reduceIte, Nat.reduceBEq, Nat.reduceAdd, Nat.reduceSub, Nat.reduceMul, Nat.reduceEqDiff, Nat.reduceLeDiff, Nat.reduceLT, effOf, effMem, effVar, effLit, effMake, effApp, lend, evLit, evNil, freeze, evField, evIndexT, orNil, evSlice, placeOf, evMap, mapOf, keyOk, evFrame, closed, fixed, sameEs, wit, Option.isSome_some, St.with, wantedD, Array.size, te, einl, inls, efr]
            (first | exact ⟨(), trivial⟩ | refine ⟨(), ?_, trivial⟩ | skip)
  · rw [if_neg h]
    obtain ⟨rs, ds⟩ := r
    have h' : (dividedE ⟨rs, ds⟩ w 0 != 0) = true := by simpa using h
    generalize dividedE ⟨rs, ds⟩ w 0 = e at *
    unfold encRoom at k1 ⊢
    simp (maxSteps := 1000000) (implicitDefEqProofs := false) only [Try.ntmps37, Try.results37, efc37, fc37, k1, h', ss, sd, evOp, evPlain, evVal, evMem, St.get, sliceOf, arrayOf, fieldsOf, normOf, norm, look, evVar, evFieldAddr, nameOf, St.alloc, St.drop, killOb, part, splice, depth, resultsV, ↓reduceIte, Nat.reduceBEq, Nat.reduceAdd, Nat.reduceSub, Nat.reduceMul, Nat.reduceEqDiff, Nat.reduceLeDiff, Nat.reduceLT, effOf, effMem, effVar, effLit, effMake, effApp, lend, evLit, evNil, freeze, evField, evIndexT, orNil, evSlice, placeOf, evMap, mapOf, keyOk, evFrame, closed, fixed, sameEs, wit, Option.isSome_some, St.with, wantedD, Array.size, te, einl, inls, efr]
end Go.AM.D
