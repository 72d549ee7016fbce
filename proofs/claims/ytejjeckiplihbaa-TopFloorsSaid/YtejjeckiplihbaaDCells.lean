/-
The cells of a room, and whether it is valid (floor.cellsOf and the document's Validate).
-/
import Derived.Test.YtejjeckiplihbaaDBase
set_option linter.unusedSimpArgs false
set_option maxRecDepth 20000

namespace Go.AM.D
open Go Go.AM Go.Proofs

section
variable {r : Room}
theorem roomE_len (h : inB r.rects.length 1 8 = false) : roomE r = 1 := by unfold roomE; rw [if_pos h]
theorem roomE_rect (h : inB r.rects.length 1 8 = true) (h2 : r.rects.all rectOk = false) : roomE r = 1 := by unfold roomE; rw [if_neg (by rw [h]; decide), if_pos h2]
theorem roomE_over (h : inB r.rects.length 1 8 = true) (h2 : r.rects.all rectOk = true) (h3 : overM r.rects = true) : roomE r = 10 := by
  unfold roomE; rw [if_neg (by rw [h]; decide), if_neg (by rw [h2]; decide), if_pos h3]
theorem roomE_large (h : inB r.rects.length 1 8 = true) (h2 : r.rects.all rectOk = true) (h3 : overM r.rects = false) (h4 : 4 < r.doors.length) : roomE r = 4 := by
  unfold roomE; rw [if_neg (by rw [h]; decide), if_neg (by rw [h2]; decide), if_neg (by rw [h3]; decide), if_pos h4]
theorem roomE_door (h : inB r.rects.length 1 8 = true) (h2 : r.rects.all rectOk = true) (h3 : overM r.rects = false) (h4 : ¬ 4 < r.doors.length) (h5 : r.doors.all doorOk = false) : roomE r = 1 := by
  unfold roomE; rw [if_neg (by rw [h]; decide), if_neg (by rw [h2]; decide), if_neg (by rw [h3]; decide), if_neg h4, if_pos h5]
theorem roomE_ok (h : inB r.rects.length 1 8 = true) (h2 : r.rects.all rectOk = true) (h3 : overM r.rects = false) (h4 : ¬ 4 < r.doors.length) (h5 : r.doors.all doorOk = true) : roomE r = 0 := by
  unfold roomE; rw [if_neg (by rw [h]; decide), if_neg (by rw [h2]; decide), if_neg (by rw [h3]; decide), if_neg h4, if_neg (by rw [h5]; decide)]
end

def gridOf (rs : List Rect) : List V := grid fun x y => cellM rs x y
def cellsV (r : Room) : V := if roomE r = 0 then .tup [.fp true (gridOf r.rects) 0, .int .i64 0] else .tup [.lit (.pointer none), .int .i64 (roomE r)]
theorem cellsV_err {r : Room} {e : Int} (h : roomE r = e) (he : e ≠ 0) : cellsV r = .tup [.lit (.pointer none), .int .i64 e] := by
  unfold cellsV; rw [h, if_neg he]
theorem cellsV_ok {r : Room} (h : roomE r = 0) : cellsV r = .tup [.fp true (gridOf r.rects) 0, .int .i64 0] := by
  unfold cellsV; rw [if_pos h]

def gridOb (f : Nat → Nat → Bool) : Ob := { es := 3600, flat := true, t := true, app := false, elems := [.agg (grid f)] }

theorem over_of {rs pre post : List Rect} {a : Rect} (hp : rs = pre ++ a :: post) {x y : Nat} (hx : x < 60) (hy : y < 60) (hc : cellM pre x y = true) (ha : inR a x y = true) : overM rs = true := by
  refine overM_iff.2 ⟨x, y, hx, hy, ?_⟩
  rw [cell_cover] at hc
  have h1 : 0 < cover pre x y := of_decide_eq_true hc
  rw [hp, cover_app]
  have h2 : cover (a :: post) x y = cover [a] x y + cover post x y := by rw [← cover_app]; rfl
  have h3 : cover [a] x y = 1 := by unfold cover; simp [ha]
  omega
theorem over_not {rs : List Rect} (h : ∀ x y : Nat, x < 60 → y < 60 → cover rs x y ≤ 1) : overM rs = false := by
  rw [Bool.eq_false_iff]
  intro hh
  obtain ⟨x, y, hx, hy, h1⟩ := overM_iff.1 hh
  have := h x y hx hy
  omega

set_option maxHeartbeats 40000000 in
theorem c60 (r : Room) (hr : r.rects.length ≤ 1000000000) (hd : r.doors.length ≤ 1000000000) : (orcω E X0).call 60 [encRoom r] = some (cellsV r) := by
  refine call_of rfl fn60 rfl ?_
  have k1 := fun x lo hi => c63 x lo hi
  cases h0 : inB r.rects.length 1 8 with
  | false =>
    have cv := cellsV_err (roomE_len h0) (by decide)
    obtain ⟨rs, ds⟩ := r
    dsimp only at h0
    simp (maxSteps := 1000000) (implicitDefEqProofs := false) only [Try.ntmps60, Try.results60, efc60, fc60, encRoom, k1, h0, cv, List.length_map, ss, sd, evOp, evPlain, evVal, evMem, St.get, sliceOf, arrayOf, fieldsOf, normOf, norm, look, evVar, evFieldAddr, nameOf, St.alloc, St.drop, killOb, part, splice, depth, resultsV, ↓reduceIte, Nat.reduceBEq, Nat.reduceAdd, Nat.reduceSub, Nat.reduceMul, Nat.reduceEqDiff, Nat.reduceLeDiff, Nat.reduceLT, effOf, effMem, effVar, effLit, effMake, effApp, lend, evLit, evNil, freeze, evField, evIndexT, orNil, evSlice, placeOf, evMap, mapOf, keyOk, evFrame, closed, fixed, sameEs, wit, Option.isSome_some, St.with, wantedD, Array.size, te, einl, inls, efr]
  | true =>
  have i1 := fun h => cellsV_err (roomE_rect h0 h) (by decide)
  have i2 := fun h h' => cellsV_err (roomE_over h0 h h') (by decide)
  have i3 := fun h h' h'' => cellsV_err (roomE_large h0 h h' h'') (by decide)
  have i4 := fun h h' h'' h3 => cellsV_err (roomE_door h0 h h' h'' h3) (by decide)
  have i5 := fun h h' h'' h3 => cellsV_ok (roomE_ok h0 h h' h'' h3)
  obtain ⟨rs, ds⟩ := r
  dsimp only at h0 hr hd i1 i2 i3 i4 i5
  have hb0 := inB_iff.1 h0
  generalize cellsV ⟨rs, ds⟩ = res at *
  simp (maxSteps := 1000000) (implicitDefEqProofs := false) only [Try.ntmps60, Try.results60, efc60, fc60, encRoom, k1, h0, List.length_map, ss, sd, evOp, evPlain, evVal, evMem, St.get, sliceOf, arrayOf, fieldsOf, normOf, norm, look, evVar, evFieldAddr, nameOf, St.alloc, St.drop, killOb, part, splice, depth, resultsV, ↓reduceIte, Nat.reduceBEq, Nat.reduceAdd, Nat.reduceSub, Nat.reduceMul, Nat.reduceEqDiff, Nat.reduceLeDiff, Nat.reduceLT, effOf, effMem, effVar, effLit, effMake, effApp, lend, evLit, evNil, freeze, evField, evIndexT, orNil, evSlice, placeOf, evMap, mapOf, keyOk, evFrame, closed, fixed, sameEs, wit, Option.isSome_some, St.with, wantedD, Array.size, te, einl, inls, efr]
  generalize hr : loopAt _ _ _ _ _ _ = r; revert r
  refine loop_list rs (fun pre _ => [(21, .int .i64 pre.length)]) (fun _ _ => []) (fun pre (_ : Unit) => pre.all rectOk = true) () (by omega) (by simp (maxSteps := 1000000) (implicitDefEqProofs := false) only [ss, sd, evOp, evPlain, evVal, evMem, St.get, sliceOf, arrayOf, fieldsOf, normOf, norm, look, evVar, evFieldAddr, nameOf, St.alloc, St.drop, killOb, part, splice, depth, resultsV, ↓reduceIte, Nat.reduceBEq, Nat.reduceAdd, Nat.reduceSub, Nat.reduceMul, Nat.reduceEqDiff, Nat.reduceLeDiff, Nat.reduceLT, effOf, effMem, effVar, effLit, effMake, effApp, lend, evLit, evNil, freeze, evField, evIndexT, orNil, evSlice, placeOf, evMap, mapOf, keyOk, evFrame, closed, fixed, sameEs, wit, Option.isSome_some, St.with, wantedD, Array.size, te, einl, inls, efr]) rfl (fun _ hi => ?_) (fun pre x post _ hp hi g1 g2 g3 g4 => ?_)
  rotate_left
  · have g6 : rs.all rectOk = (rectOk x && post.all rectOk) := by rw [hp]; simp [hi]
    have g7 : (pre ++ [x]).all rectOk = rectOk x := by simp [hi]
    have g8 : rectOk x = (inB x.x 0 60 && inB x.y 0 60 && inB x.w 1 (60 - x.x) && inB x.h 1 (60 - x.y)) := rfl
    rw [g8] at g6 g7
    cases h1 : inB x.x 0 60 with
    | false =>
      have e1 := i1 (by rw [g6, h1]; rfl)
      simp (maxSteps := 1000000) (implicitDefEqProofs := false) only [g1, g2, g3, g4, k1, h1, e1, encRect, Int.natCast_nonneg, Int.toNat_natCast, List.getElem?_map, List.length_map, Try.ntmps60, Try.results60, efc60, fc60, ss, sd, evOp, evPlain, evVal, evMem, St.get, sliceOf, arrayOf, fieldsOf, normOf, norm, look, evVar, evFieldAddr, nameOf, St.alloc, St.drop, killOb, part, splice, depth, resultsV, ↓reduceIte, Nat.reduceBEq, Nat.reduceAdd, Nat.reduceSub, Nat.reduceMul, Nat.reduceEqDiff, Nat.reduceLeDiff, Nat.reduceLT, effOf, effMem, effVar, effLit, effMake, effApp, lend, evLit, evNil, freeze, evField, evIndexT, orNil, evSlice, placeOf, evMap, mapOf, keyOk, evFrame, closed, fixed, sameEs, wit, Option.isSome_some, St.with, wantedD, Array.size, te, einl, inls, efr]
    | true =>
    cases h2 : inB x.y 0 60 with
    | false =>
      have e1 := i1 (by rw [g6, h1, h2]; rfl)
      simp (maxSteps := 1000000) (implicitDefEqProofs := false) only [g1, g2, g3, g4, k1, h1, h2, e1, encRect, Int.natCast_nonneg, Int.toNat_natCast, List.getElem?_map, List.length_map, Try.ntmps60, Try.results60, efc60, fc60, ss, sd, evOp, evPlain, evVal, evMem, St.get, sliceOf, arrayOf, fieldsOf, normOf, norm, look, evVar, evFieldAddr, nameOf, St.alloc, St.drop, killOb, part, splice, depth, resultsV, ↓reduceIte, Nat.reduceBEq, Nat.reduceAdd, Nat.reduceSub, Nat.reduceMul, Nat.reduceEqDiff, Nat.reduceLeDiff, Nat.reduceLT, effOf, effMem, effVar, effLit, effMake, effApp, lend, evLit, evNil, freeze, evField, evIndexT, orNil, evSlice, placeOf, evMap, mapOf, keyOk, evFrame, closed, fixed, sameEs, wit, Option.isSome_some, St.with, wantedD, Array.size, te, einl, inls, efr]
    | true =>
    have hx1 := inB_iff.1 h1
    have hx2 := inB_iff.1 h2
    have w1 : IntKind.i64.wrap (60 - x.x) = 60 - x.x := wrap_in (by omega)
    have w2 : IntKind.i64.wrap (60 - x.y) = 60 - x.y := wrap_in (by omega)
    cases h3 : inB x.w 1 (60 - x.x) with
    | false =>
      have e1 := i1 (by rw [g6, h1, h2, h3]; rfl)
      simp (maxSteps := 1000000) (implicitDefEqProofs := false) only [g1, g2, g3, g4, k1, h1, h2, h3, w1, e1, encRect, Int.natCast_nonneg, Int.toNat_natCast, List.getElem?_map, List.length_map, Try.ntmps60, Try.results60, efc60, fc60, ss, sd, evOp, evPlain, evVal, evMem, St.get, sliceOf, arrayOf, fieldsOf, normOf, norm, look, evVar, evFieldAddr, nameOf, St.alloc, St.drop, killOb, part, splice, depth, resultsV, ↓reduceIte, Nat.reduceBEq, Nat.reduceAdd, Nat.reduceSub, Nat.reduceMul, Nat.reduceEqDiff, Nat.reduceLeDiff, Nat.reduceLT, effOf, effMem, effVar, effLit, effMake, effApp, lend, evLit, evNil, freeze, evField, evIndexT, orNil, evSlice, placeOf, evMap, mapOf, keyOk, evFrame, closed, fixed, sameEs, wit, Option.isSome_some, St.with, wantedD, Array.size, te, einl, inls, efr]
    | true =>
    cases h4 : inB x.h 1 (60 - x.y) with
    | false =>
      have e1 := i1 (by rw [g6, h1, h2, h3, h4]; rfl)
      simp (maxSteps := 1000000) (implicitDefEqProofs := false) only [g1, g2, g3, g4, k1, h1, h2, h3, h4, w1, w2, e1, encRect, Int.natCast_nonneg, Int.toNat_natCast, List.getElem?_map, List.length_map, Try.ntmps60, Try.results60, efc60, fc60, ss, sd, evOp, evPlain, evVal, evMem, St.get, sliceOf, arrayOf, fieldsOf, normOf, norm, look, evVar, evFieldAddr, nameOf, St.alloc, St.drop, killOb, part, splice, depth, resultsV, ↓reduceIte, Nat.reduceBEq, Nat.reduceAdd, Nat.reduceSub, Nat.reduceMul, Nat.reduceEqDiff, Nat.reduceLeDiff, Nat.reduceLT, effOf, effMem, effVar, effLit, effMake, effApp, lend, evLit, evNil, freeze, evField, evIndexT, orNil, evSlice, placeOf, evMap, mapOf, keyOk, evFrame, closed, fixed, sameEs, wit, Option.isSome_some, St.with, wantedD, Array.size, te, einl, inls, efr]
    | true =>
      simp (maxSteps := 1000000) (implicitDefEqProofs := false) only [g1, g2, g3, g4, k1, h1, h2, h3, h4, w1, w2, encRect, Int.natCast_nonneg, Int.toNat_natCast, List.getElem?_map, List.length_map, ss, sd, evOp, evPlain, evVal, evMem, St.get, sliceOf, arrayOf, fieldsOf, normOf, norm, look, evVar, evFieldAddr, nameOf, St.alloc, St.drop, killOb, part, splice, depth, resultsV, ↓reduceIte, Nat.reduceBEq, Nat.reduceAdd, Nat.reduceSub, Nat.reduceMul, Nat.reduceEqDiff, Nat.reduceLeDiff, Nat.reduceLT, effOf, effMem, effVar, effLit, effMake, effApp, lend, evLit, evNil, freeze, evField, evIndexT, orNil, evSlice, placeOf, evMap, mapOf, keyOk, evFrame, closed, fixed, sameEs, wit, Option.isSome_some, St.with, wantedD, Array.size, te, einl, inls, efr]
      exact ⟨(), by rw [g7, h1, h2, h3, h4]; rfl⟩
  have hall : ∀ a ∈ rs, rectOk a = true := List.all_eq_true.1 hi
  simp (maxSteps := 1000000) (implicitDefEqProofs := false) only [Int.lt_irrefl, List.length_map, zs3600_grid, grid_len, kill_grid, refFree_grid, isNew_grid, ss, sd, evOp, evPlain, evVal, evMem, St.get, sliceOf, arrayOf, fieldsOf, normOf, norm, look, evVar, evFieldAddr, nameOf, St.alloc, St.drop, killOb, part, splice, depth, resultsV, ↓reduceIte, Nat.reduceBEq, Nat.reduceAdd, Nat.reduceSub, Nat.reduceMul, Nat.reduceEqDiff, Nat.reduceLeDiff, Nat.reduceLT, effOf, effMem, effVar, effLit, effMake, effApp, lend, evLit, evNil, freeze, evField, evIndexT, orNil, evSlice, placeOf, evMap, mapOf, keyOk, evFrame, closed, fixed, sameEs, wit, Option.isSome_some, St.with, wantedD, Array.size, te, einl, inls, efr]
  generalize hr : loopAt _ _ _ _ _ _ = r; revert r
  refine loop_list rs (fun pre _ => [(59, .int .i64 pre.length)]) (fun _ g => [(55, gridOb g)]) (fun pre (g : Nat → Nat → Bool) => (∀ x y : Nat, x < 60 → y < 60 → g x y = cellM pre x y) ∧ ∀ x y : Nat, x < 60 → y < 60 → cover pre x y ≤ 1) (fun _ _ => false) (by omega) (by simp (maxSteps := 1000000) (implicitDefEqProofs := false) only [gridOb, ss, sd, evOp, evPlain, evVal, evMem, St.get, sliceOf, arrayOf, fieldsOf, normOf, norm, look, evVar, evFieldAddr, nameOf, St.alloc, St.drop, killOb, part, splice, depth, resultsV, ↓reduceIte, Nat.reduceBEq, Nat.reduceAdd, Nat.reduceSub, Nat.reduceMul, Nat.reduceEqDiff, Nat.reduceLeDiff, Nat.reduceLT, effOf, effMem, effVar, effLit, effMake, effApp, lend, evLit, evNil, freeze, evField, evIndexT, orNil, evSlice, placeOf, evMap, mapOf, keyOk, evFrame, closed, fixed, sameEs, wit, Option.isSome_some, St.with, wantedD, Array.size, te, einl, inls, efr]) ⟨fun _ _ _ _ => rfl, fun _ _ _ _ => by simp [cover]⟩ (fun g hg => ?_) (fun pre a post g hp hg g1 g2 g3 g4 => ?_)
  · have h3 : overM rs = false := over_not hg.2
    have e9 : grid g = gridOf rs := grid_congr hg.1
    by_cases h4 : 4 < ds.length
    · have h4' : (4 : Int) < ds.length := by omega
      have e1 := i3 hi h3 h4
      simp (maxSteps := 1000000) (implicitDefEqProofs := false) only [Int.lt_irrefl, gridOb, h4', e1, List.length_map, Try.ntmps60, Try.results60, efc60, fc60, ss, sd, evOp, evPlain, evVal, evMem, St.get, sliceOf, arrayOf, fieldsOf, normOf, norm, look, evVar, evFieldAddr, nameOf, St.alloc, St.drop, killOb, part, splice, depth, resultsV, ↓reduceIte, Nat.reduceBEq, Nat.reduceAdd, Nat.reduceSub, Nat.reduceMul, Nat.reduceEqDiff, Nat.reduceLeDiff, Nat.reduceLT, effOf, effMem, effVar, effLit, effMake, effApp, lend, evLit, evNil, freeze, evField, evIndexT, orNil, evSlice, placeOf, evMap, mapOf, keyOk, evFrame, closed, fixed, sameEs, wit, Option.isSome_some, St.with, wantedD, Array.size, te, einl, inls, efr]
    have h4' : ¬ (4 : Int) < ds.length := by omega
    simp (maxSteps := 1000000) (implicitDefEqProofs := false) only [Int.lt_irrefl, gridOb, h4', List.length_map, ss, sd, evOp, evPlain, evVal, evMem, St.get, sliceOf, arrayOf, fieldsOf, normOf, norm, look, evVar, evFieldAddr, nameOf, St.alloc, St.drop, killOb, part, splice, depth, resultsV, ↓reduceIte, Nat.reduceBEq, Nat.reduceAdd, Nat.reduceSub, Nat.reduceMul, Nat.reduceEqDiff, Nat.reduceLeDiff, Nat.reduceLT, effOf, effMem, effVar, effLit, effMake, effApp, lend, evLit, evNil, freeze, evField, evIndexT, orNil, evSlice, placeOf, evMap, mapOf, keyOk, evFrame, closed, fixed, sameEs, wit, Option.isSome_some, St.with, wantedD, Array.size, te, einl, inls, efr]
    generalize hr : loopAt _ _ _ _ _ _ = r; revert r
    refine loop_list ds (fun pre _ => [(106, .int .i64 pre.length)]) (fun _ _ => []) (fun pre (_ : Unit) => pre.all doorOk = true) () (by omega) (by simp (maxSteps := 1000000) (implicitDefEqProofs := false) only [ss, sd, evOp, evPlain, evVal, evMem, St.get, sliceOf, arrayOf, fieldsOf, normOf, norm, look, evVar, evFieldAddr, nameOf, St.alloc, St.drop, killOb, part, splice, depth, resultsV, ↓reduceIte, Nat.reduceBEq, Nat.reduceAdd, Nat.reduceSub, Nat.reduceMul, Nat.reduceEqDiff, Nat.reduceLeDiff, Nat.reduceLT, effOf, effMem, effVar, effLit, effMake, effApp, lend, evLit, evNil, freeze, evField, evIndexT, orNil, evSlice, placeOf, evMap, mapOf, keyOk, evFrame, closed, fixed, sameEs, wit, Option.isSome_some, St.with, wantedD, Array.size, te, einl, inls, efr]) rfl (fun _ hj => ?_) (fun pre x post _ hp hj g1 g2 g3 g4 => ?_)
    · have e1 := i5 hi h3 h4 hj
      simp (maxSteps := 1000000) (implicitDefEqProofs := false) only [Int.lt_irrefl, e1, e9, List.length_map, Try.ntmps60, Try.results60, efc60, fc60, ss, sd, evOp, evPlain, evVal, evMem, St.get, sliceOf, arrayOf, fieldsOf, normOf, norm, look, evVar, evFieldAddr, nameOf, St.alloc, St.drop, killOb, part, splice, depth, resultsV, ↓reduceIte, Nat.reduceBEq, Nat.reduceAdd, Nat.reduceSub, Nat.reduceMul, Nat.reduceEqDiff, Nat.reduceLeDiff, Nat.reduceLT, effOf, effMem, effVar, effLit, effMake, effApp, lend, evLit, evNil, freeze, evField, evIndexT, orNil, evSlice, placeOf, evMap, mapOf, keyOk, evFrame, closed, fixed, sameEs, wit, Option.isSome_some, St.with, wantedD, Array.size, te, einl, inls, efr]
    · have g6 : ds.all doorOk = (doorOk x && post.all doorOk) := by rw [hp]; simp [hj]
      have g7 : (pre ++ [x]).all doorOk = doorOk x := by simp [hj]
      have g8 : doorOk x = (decide (0 ≤ x.x1) && decide (x.x1 < x.x2) && decide (x.x2 ≤ 60) && inB x.y 0 60) := rfl
      rw [g8] at g6 g7
      by_cases h1 : x.x1 < 0
      · have e1 := i4 hi h3 h4 (by rw [g6, decide_eq_false (show ¬ 0 ≤ x.x1 by omega)]; rfl)
        simp (maxSteps := 1000000) (implicitDefEqProofs := false) only [g1, g2, g3, g4, k1, h1, e1, encDoor, Int.natCast_nonneg, Int.toNat_natCast, List.getElem?_map, List.length_map, Try.ntmps60, Try.results60, efc60, fc60, ss, sd, evOp, evPlain, evVal, evMem, St.get, sliceOf, arrayOf, fieldsOf, normOf, norm, look, evVar, evFieldAddr, nameOf, St.alloc, St.drop, killOb, part, splice, depth, resultsV, ↓reduceIte, Nat.reduceBEq, Nat.reduceAdd, Nat.reduceSub, Nat.reduceMul, Nat.reduceEqDiff, Nat.reduceLeDiff, Nat.reduceLT, effOf, effMem, effVar, effLit, effMake, effApp, lend, evLit, evNil, freeze, evField, evIndexT, orNil, evSlice, placeOf, evMap, mapOf, keyOk, evFrame, closed, fixed, sameEs, wit, Option.isSome_some, St.with, wantedD, Array.size, te, einl, inls, efr]
      have n1 : 0 ≤ x.x1 := by omega
      by_cases h2 : x.x2 ≤ x.x1
      · have e1 := i4 hi h3 h4 (by rw [g6, decide_eq_false (show ¬ x.x1 < x.x2 by omega)]; simp)
        simp (maxSteps := 1000000) (implicitDefEqProofs := false) only [g1, g2, g3, g4, k1, h1, h2, e1, encDoor, Int.natCast_nonneg, Int.toNat_natCast, List.getElem?_map, List.length_map, Try.ntmps60, Try.results60, efc60, fc60, ss, sd, evOp, evPlain, evVal, evMem, St.get, sliceOf, arrayOf, fieldsOf, normOf, norm, look, evVar, evFieldAddr, nameOf, St.alloc, St.drop, killOb, part, splice, depth, resultsV, ↓reduceIte, Nat.reduceBEq, Nat.reduceAdd, Nat.reduceSub, Nat.reduceMul, Nat.reduceEqDiff, Nat.reduceLeDiff, Nat.reduceLT, effOf, effMem, effVar, effLit, effMake, effApp, lend, evLit, evNil, freeze, evField, evIndexT, orNil, evSlice, placeOf, evMap, mapOf, keyOk, evFrame, closed, fixed, sameEs, wit, Option.isSome_some, St.with, wantedD, Array.size, te, einl, inls, efr]
      have n2 : x.x1 < x.x2 := by omega
      by_cases h5 : 60 < x.x2
      · have e1 := i4 hi h3 h4 (by rw [g6, decide_eq_false (show ¬ x.x2 ≤ 60 by omega)]; simp)
        simp (maxSteps := 1000000) (implicitDefEqProofs := false) only [g1, g2, g3, g4, k1, h1, h2, h5, e1, encDoor, Int.natCast_nonneg, Int.toNat_natCast, List.getElem?_map, List.length_map, Try.ntmps60, Try.results60, efc60, fc60, ss, sd, evOp, evPlain, evVal, evMem, St.get, sliceOf, arrayOf, fieldsOf, normOf, norm, look, evVar, evFieldAddr, nameOf, St.alloc, St.drop, killOb, part, splice, depth, resultsV, ↓reduceIte, Nat.reduceBEq, Nat.reduceAdd, Nat.reduceSub, Nat.reduceMul, Nat.reduceEqDiff, Nat.reduceLeDiff, Nat.reduceLT, effOf, effMem, effVar, effLit, effMake, effApp, lend, evLit, evNil, freeze, evField, evIndexT, orNil, evSlice, placeOf, evMap, mapOf, keyOk, evFrame, closed, fixed, sameEs, wit, Option.isSome_some, St.with, wantedD, Array.size, te, einl, inls, efr]
      have n5 : x.x2 ≤ 60 := by omega
      cases h6 : inB x.y 0 60 with
      | false =>
        have e1 := i4 hi h3 h4 (by rw [g6, h6]; simp)
        simp (maxSteps := 1000000) (implicitDefEqProofs := false) only [g1, g2, g3, g4, k1, h1, h2, h5, h6, e1, encDoor, Int.natCast_nonneg, Int.toNat_natCast, List.getElem?_map, List.length_map, Try.ntmps60, Try.results60, efc60, fc60, ss, sd, evOp, evPlain, evVal, evMem, St.get, sliceOf, arrayOf, fieldsOf, normOf, norm, look, evVar, evFieldAddr, nameOf, St.alloc, St.drop, killOb, part, splice, depth, resultsV, ↓reduceIte, Nat.reduceBEq, Nat.reduceAdd, Nat.reduceSub, Nat.reduceMul, Nat.reduceEqDiff, Nat.reduceLeDiff, Nat.reduceLT, effOf, effMem, effVar, effLit, effMake, effApp, lend, evLit, evNil, freeze, evField, evIndexT, orNil, evSlice, placeOf, evMap, mapOf, keyOk, evFrame, closed, fixed, sameEs, wit, Option.isSome_some, St.with, wantedD, Array.size, te, einl, inls, efr]
      | true =>
        simp (maxSteps := 1000000) (implicitDefEqProofs := false) only [g1, g2, g3, g4, k1, h1, h2, h5, h6, encDoor, Int.natCast_nonneg, Int.toNat_natCast, List.getElem?_map, List.length_map, ss, sd, evOp, evPlain, evVal, evMem, St.get, sliceOf, arrayOf, fieldsOf, normOf, norm, look, evVar, evFieldAddr, nameOf, St.alloc, St.drop, killOb, part, splice, depth, resultsV, ↓reduceIte, Nat.reduceBEq, Nat.reduceAdd, Nat.reduceSub, Nat.reduceMul, Nat.reduceEqDiff, Nat.reduceLeDiff, Nat.reduceLT, effOf, effMem, effVar, effLit, effMake, effApp, lend, evLit, evNil, freeze, evField, evIndexT, orNil, evSlice, placeOf, evMap, mapOf, keyOk, evFrame, closed, fixed, sameEs, wit, Option.isSome_some, St.with, wantedD, Array.size, te, einl, inls, efr]
        exact ⟨(), by rw [g7, h6]; simp [n1, n2, n5]⟩
  · have hb := rectOk_iff.1 (hall a (by rw [hp]; simp))
    have w1 : IntKind.i64.wrap (a.x + a.w) = a.x + a.w := wrap_in (by omega)
    have w2 : IntKind.i64.wrap (a.y + a.h) = a.y + a.h := wrap_in (by omega)
    simp (maxSteps := 1000000) (implicitDefEqProofs := false) only [g1, g2, g3, g4, gridOb, encRect, Int.natCast_nonneg, Int.toNat_natCast, List.getElem?_map, List.length_map, ss, sd, evOp, evPlain, evVal, evMem, St.get, sliceOf, arrayOf, fieldsOf, normOf, norm, look, evVar, evFieldAddr, nameOf, St.alloc, St.drop, killOb, part, splice, depth, resultsV, ↓reduceIte, Nat.reduceBEq, Nat.reduceAdd, Nat.reduceSub, Nat.reduceMul, Nat.reduceEqDiff, Nat.reduceLeDiff, Nat.reduceLT, effOf, effMem, effVar, effLit, effMake, effApp, lend, evLit, evNil, freeze, evField, evIndexT, orNil, evSlice, placeOf, evMap, mapOf, keyOk, evFrame, closed, fixed, sameEs, wit, Option.isSome_some, St.with, wantedD, Array.size, te, einl, inls, efr]
    generalize hr : loopAt _ _ _ _ _ _ = r; revert r
    refine loop_nat a.w.toNat (fun k _ => [(9, .int .i64 (a.x + (k : Int)))]) (fun _ f => [(55, gridOb f)])
      (fun k (f : Nat → Nat → Bool) => (∀ x y : Nat, x < 60 → y < 60 → f x y = (g x y || (inR a x y && decide ((x : Int) < a.x + (k : Int))))) ∧ ∀ x y : Nat, x < 60 → y < 60 → inR a x y = true → (x : Int) < a.x + (k : Int) → g x y = false)
      g (by omega) (by simp (maxSteps := 1000000) (implicitDefEqProofs := false) only [gridOb, Int.natCast_zero, Int.add_zero, ss, sd, evOp, evPlain, evVal, evMem, St.get, sliceOf, arrayOf, fieldsOf, normOf, norm, look, evVar, evFieldAddr, nameOf, St.alloc, St.drop, killOb, part, splice, depth, resultsV, ↓reduceIte, Nat.reduceBEq, Nat.reduceAdd, Nat.reduceSub, Nat.reduceMul, Nat.reduceEqDiff, Nat.reduceLeDiff, Nat.reduceLT, effOf, effMem, effVar, effLit, effMake, effApp, lend, evLit, evNil, freeze, evField, evIndexT, orNil, evSlice, placeOf, evMap, mapOf, keyOk, evFrame, closed, fixed, sameEs, wit, Option.isSome_some, St.with, wantedD, Array.size, te, einl, inls, efr]) ⟨fun x y _ _ => ?_, fun x y _ _ h1 h2 => ?_⟩ (fun f hf => ?_) (fun k f hf q1 q2 _ => ?_)
    · have : (inR a x y && decide ((x : Int) < a.x + ((0 : Nat) : Int))) = false := by
        rw [Bool.and_eq_false_iff]
        cases h1 : inR a x y with
        | false => exact .inl rfl
        | true => right; have := inR_iff.1 h1; simp; omega
      rw [this, Bool.or_false]
    · have := inR_iff.1 h1
      omega
    · have c1 : ¬ (a.x + ((a.w.toNat : Nat) : Int) < a.x + a.w) := by omega
      simp (maxSteps := 1000000) (implicitDefEqProofs := false) only [gridOb, c1, w1, g4, ss, sd, evOp, evPlain, evVal, evMem, St.get, sliceOf, arrayOf, fieldsOf, normOf, norm, look, evVar, evFieldAddr, nameOf, St.alloc, St.drop, killOb, part, splice, depth, resultsV, ↓reduceIte, Nat.reduceBEq, Nat.reduceAdd, Nat.reduceSub, Nat.reduceMul, Nat.reduceEqDiff, Nat.reduceLeDiff, Nat.reduceLT, effOf, effMem, effVar, effLit, effMake, effApp, lend, evLit, evNil, freeze, evField, evIndexT, orNil, evSlice, placeOf, evMap, mapOf, keyOk, evFrame, closed, fixed, sameEs, wit, Option.isSome_some, St.with, wantedD, Array.size, te, einl, inls, efr]
      refine ⟨f, rfl, fun x y hx hy => ?_, fun x y hx hy => ?_⟩
      · rw [hf.1 x y hx hy, hg.1 x y hx hy]
        unfold cellM
        rw [List.any_append]
        congr 1
        cases h1 : inR a x y with
        | false => simp [h1]
        | true => have := inR_iff.1 h1; simp [h1]; omega
      · rw [cover_snoc]
        split
        · rename_i h1
          have h2 := hf.2 x y hx hy h1 (by have := inR_iff.1 h1; omega)
          rw [hg.1 x y hx hy, cell_cover] at h2
          have : ¬ 0 < cover pre x y := of_decide_eq_false h2
          omega
        · have := hg.2 x y hx hy
          omega
    · have c1 : a.x + (k : Int) < a.x + a.w := by omega
      have w3 : IntKind.i64.wrap (a.x + (k : Int) + 1) = a.x + ((k + 1 : Nat) : Int) := by rw [wrap_in (by omega)]; omega
      obtain ⟨P, hP⟩ : ∃ P : Nat, a.x + (k : Int) = P := ⟨(a.x + (k : Int)).toNat, by omega⟩
      have hP60 : P < 60 := by omega
      simp (maxSteps := 1000000) (implicitDefEqProofs := false) only [gridOb, c1, w1, ss, sd, evOp, evPlain, evVal, evMem, St.get, sliceOf, arrayOf, fieldsOf, normOf, norm, look, evVar, evFieldAddr, nameOf, St.alloc, St.drop, killOb, part, splice, depth, resultsV, ↓reduceIte, Nat.reduceBEq, Nat.reduceAdd, Nat.reduceSub, Nat.reduceMul, Nat.reduceEqDiff, Nat.reduceLeDiff, Nat.reduceLT, effOf, effMem, effVar, effLit, effMake, effApp, lend, evLit, evNil, freeze, evField, evIndexT, orNil, evSlice, placeOf, evMap, mapOf, keyOk, evFrame, closed, fixed, sameEs, wit, Option.isSome_some, St.with, wantedD, Array.size, te, einl, inls, efr]
      generalize hr : loopAt _ _ _ _ _ _ = r; revert r
      refine loop_nat a.h.toNat (fun j _ => [(10, .int .i64 (a.y + (j : Int)))]) (fun _ f => [(55, gridOb f)])
        (fun j (f : Nat → Nat → Bool) => (∀ x y : Nat, x < 60 → y < 60 → f x y = (g x y || (inR a x y && (decide ((x : Int) < a.x + (k : Int)) || (decide ((x : Int) = a.x + (k : Int)) && decide ((y : Int) < a.y + (j : Int))))))) ∧ ∀ x y : Nat, x < 60 → y < 60 → inR a x y = true → (x : Int) < a.x + (k : Int) ∨ ((x : Int) = a.x + (k : Int) ∧ (y : Int) < a.y + (j : Int)) → g x y = false)
        f (by omega) (by simp (maxSteps := 1000000) (implicitDefEqProofs := false) only [gridOb, Int.natCast_zero, Int.add_zero, ss, sd, evOp, evPlain, evVal, evMem, St.get, sliceOf, arrayOf, fieldsOf, normOf, norm, look, evVar, evFieldAddr, nameOf, St.alloc, St.drop, killOb, part, splice, depth, resultsV, ↓reduceIte, Nat.reduceBEq, Nat.reduceAdd, Nat.reduceSub, Nat.reduceMul, Nat.reduceEqDiff, Nat.reduceLeDiff, Nat.reduceLT, effOf, effMem, effVar, effLit, effMake, effApp, lend, evLit, evNil, freeze, evField, evIndexT, orNil, evSlice, placeOf, evMap, mapOf, keyOk, evFrame, closed, fixed, sameEs, wit, Option.isSome_some, St.with, wantedD, Array.size, te, einl, inls, efr]) ⟨fun x y hx hy => ?_, fun x y hx hy h1 h2 => ?_⟩ (fun f' hf' => ?_) (fun j f' hf' q3 q4 _ => ?_)
      · rw [hf.1 x y hx hy]
        congr 1
        cases h1 : inR a x y with
        | false => rfl
        | true =>
          have := inR_iff.1 h1
          have h2 : decide ((y : Int) < a.y + ((0 : Nat) : Int)) = false := by simp; omega
          rw [h2, Bool.and_false, Bool.or_false]
      · refine hf.2 x y hx hy h1 ?_
        have := inR_iff.1 h1
        omega
      · have c2 : ¬ (a.y + ((a.h.toNat : Nat) : Int) < a.y + a.h) := by omega
        simp (maxSteps := 1000000) (implicitDefEqProofs := false) only [gridOb, c2, w2, w3, ss, sd, evOp, evPlain, evVal, evMem, St.get, sliceOf, arrayOf, fieldsOf, normOf, norm, look, evVar, evFieldAddr, nameOf, St.alloc, St.drop, killOb, part, splice, depth, resultsV, ↓reduceIte, Nat.reduceBEq, Nat.reduceAdd, Nat.reduceSub, Nat.reduceMul, Nat.reduceEqDiff, Nat.reduceLeDiff, Nat.reduceLT, effOf, effMem, effVar, effLit, effMake, effApp, lend, evLit, evNil, freeze, evField, evIndexT, orNil, evSlice, placeOf, evMap, mapOf, keyOk, evFrame, closed, fixed, sameEs, wit, Option.isSome_some, St.with, wantedD, Array.size, te, einl, inls, efr]
        refine ⟨f', rfl, fun x y hx hy => ?_, fun x y hx hy h1 h2 => ?_⟩
        · rw [hf'.1 x y hx hy]
          congr 1
          cases h1 : inR a x y with
          | false => rfl
          | true =>
            have := inR_iff.1 h1
            rw [Bool.true_and, Bool.true_and, Bool.eq_iff_iff]
            simp
            omega
        · refine hf'.2 x y hx hy h1 ?_
          have := inR_iff.1 h1
          omega
      · have c2 : a.y + (j : Int) < a.y + a.h := by omega
        have w4 : IntKind.i64.wrap (a.y + (j : Int) + 1) = a.y + ((j + 1 : Nat) : Int) := by rw [wrap_in (by omega)]; omega
        obtain ⟨Q, hQ⟩ : ∃ Q : Nat, a.y + (j : Int) = Q := ⟨(a.y + (j : Int)).toNat, by omega⟩
        have hQ60 : Q < 60 := by omega
        have tP : (a.x + (k : Int)).toNat = P := by omega
        have tQ : (a.y + (j : Int)).toNat = Q := by omega
        have b1 : 0 ≤ a.x + (k : Int) := by omega
        have b2 : a.x + (k : Int) < 60 := by omega
        have b3 : 0 ≤ a.y + (j : Int) := by omega
        have b4 : a.y + (j : Int) < 60 := by omega
        have ha : inR a P Q = true := inR_iff.2 (by omega)
        have hfg : f' P Q = g P Q := by
          rw [hf'.1 P Q hP60 hQ60]
          have h1 : decide ((P : Int) < a.x + (k : Int)) = false := by simp; omega
          have h2 : decide ((Q : Int) < a.y + (j : Int)) = false := by simp; omega
          rw [h1, h2]
          simp
        have e5 := grid_get f' (x := P) (y := Q) hP60 hQ60
        have e6 : P * 60 + Q + 1 ≤ 3600 := by omega
        have e7 := grid_put f' (x := P) (y := Q) hP60 hQ60
        cases hc : g P Q with
        | true =>
          have e1 := i2 hi (over_of hp hP60 hQ60 (by rw [← hg.1 P Q hP60 hQ60]; exact hc) ha)
          rw [hfg, hc] at e5
          simp (maxSteps := 1000000) (implicitDefEqProofs := false) only [gridOb, c2, w2, e1, e5, b1, b2, b3, b4, tP, tQ, Nat.mul_one, Int.cast_ofNat_Int, Try.ntmps60, Try.results60, efc60, fc60, ss, sd, evOp, evPlain, evVal, evMem, St.get, sliceOf, arrayOf, fieldsOf, normOf, norm, look, evVar, evFieldAddr, nameOf, St.alloc, St.drop, killOb, part, splice, depth, resultsV, ↓reduceIte, Nat.reduceBEq, Nat.reduceAdd, Nat.reduceSub, Nat.reduceMul, Nat.reduceEqDiff, Nat.reduceLeDiff, Nat.reduceLT, effOf, effMem, effVar, effLit, effMake, effApp, lend, evLit, evNil, freeze, evField, evIndexT, orNil, evSlice, placeOf, evMap, mapOf, keyOk, evFrame, closed, fixed, sameEs, wit, Option.isSome_some, St.with, wantedD, Array.size, te, einl, inls, efr]
        | false =>
          rw [hfg, hc] at e5
          simp (maxSteps := 1000000) (implicitDefEqProofs := false) only [gridOb, c2, w2, w4, e5, e6, e7, b1, b2, b3, b4, tP, tQ, grid_len, Nat.mul_one, Int.cast_ofNat_Int, ss, sd, evOp, evPlain, evVal, evMem, St.get, sliceOf, arrayOf, fieldsOf, normOf, norm, look, evVar, evFieldAddr, nameOf, St.alloc, St.drop, killOb, part, splice, depth, resultsV, ↓reduceIte, Nat.reduceBEq, Nat.reduceAdd, Nat.reduceSub, Nat.reduceMul, Nat.reduceEqDiff, Nat.reduceLeDiff, Nat.reduceLT, effOf, effMem, effVar, effLit, effMake, effApp, lend, evLit, evNil, freeze, evField, evIndexT, orNil, evSlice, placeOf, evMap, mapOf, keyOk, evFrame, closed, fixed, sameEs, wit, Option.isSome_some, St.with, wantedD, Array.size, te, einl, inls, efr]
          refine ⟨mark f' P Q, rfl, fun x y hx hy => ?_, fun x y hx hy h1 h2 => ?_⟩
          · unfold mark
            rw [hf'.1 x y hx hy]
            by_cases hxy : x = P ∧ y = Q
            · obtain ⟨rfl, rfl⟩ := hxy
              have d1 : decide ((x : Int) = a.x + (k : Int)) = true := by simp; omega
              have d2 : decide ((y : Int) < a.y + ((j + 1 : Nat) : Int)) = true := by simp; omega
              rw [ha, d1, d2]
              simp
            · have : (decide (x = P) && decide (y = Q)) = false := by
                rw [Bool.and_eq_false_iff]
                by_cases h : x = P
                · right; simp; omega
                · left; simp [h]
              rw [this, Bool.or_false]
              refine congrArg (g x y || ·) ?_
              cases h1 : inR a x y with
              | false => rfl
              | true =>
                rw [Bool.true_and, Bool.true_and, Bool.eq_iff_iff]
                simp
                omega
          · by_cases hxy : x = P ∧ y = Q
            · obtain ⟨rfl, rfl⟩ := hxy
              exact hc
            · exact hf'.2 x y hx hy h1 (by omega)

end Go.AM.D
