/-
Rooms: area and cells.
-/
import Derived.Test.YtejjeckiplihbaaDValid
import Derived.Test.YtejjeckiplihbaaDArea
set_option linter.unusedSimpArgs false
set_option maxRecDepth 20000

namespace Go.AM.D
open Go Go.AM Go.Proofs

theorem cells_inside {rs : List Rect} (h : ∀ a ∈ rs, rectOk a = true) : Inside (cellM rs) := fun _ _ hc => cell_in h hc
def gridF (f : Int → Int → Bool) : List V := grid fun x y => f x y
theorem k70 {f : Int → Int → Bool} (hf : Inside f) (x y : Int) : (orcω E X0).call 70 [.fp false (gridF f) 0, .int .i64 x, .int .i64 y] = some (.bool (f x y)) := by
  have := c70 (fun x y => f x y) x y
  have e : hasG (fun x y => f x y) x y = f x y := by
    unfold hasG
    by_cases h : (0 ≤ x ∧ x ≤ 59) ∧ (0 ≤ y ∧ y ≤ 59)
    · rw [inB_iff.2 h.1, inB_iff.2 h.2]
      have e1 : ((x.toNat : Nat) : Int) = x := by omega
      have e2 : ((y.toNat : Nat) : Int) = y := by omega
      simp [e1, e2]
    · have e1 : (inB x 0 59 && inB y 0 59) = false := by
        rw [Bool.eq_false_iff]
        intro hh
        rw [Bool.and_eq_true] at hh
        exact h ⟨inB_iff.1 hh.1, inB_iff.1 hh.2⟩
      rw [e1]
      cases hc : f x y with
      | false => rfl
      | true => have := hf x y hc; omega
  rw [e] at this
  exact this

theorem roomE_cases (r : Room) : roomE r = 0 ∨ roomE r ≠ 0 := by omega
theorem roomE_all {r : Room} (h : roomE r = 0) : ∀ a ∈ r.rects, rectOk a = true := (roomE_zero h).2.1

theorem c19 (r : Room) (hr : r.rects.length ≤ 1000000000) (hd : r.doors.length ≤ 1000000000) : (orcω E X0).call 19 [encRoom r] = some (.int .i64 (roomE r)) := by
  refine call_of rfl fn19 rfl ?_
  have k1 := c60 r hr hd
  obtain ⟨rs, ds⟩ := r
  rcases roomE_cases ⟨rs, ds⟩ with h | h
  · rw [cellsV_ok h] at k1
    rw [h]
    unfold encRoom at k1 ⊢
    simp (maxSteps := 1000000) (implicitDefEqProofs := false) only [Try.ntmps19, Try.results19, efc19, k1, ss, sd, evOp, evPlain, evVal, evMem, St.get, sliceOf, arrayOf, fieldsOf, normOf, norm, look, evVar, evFieldAddr, nameOf, St.alloc, St.drop, killOb, part, splice, depth, resultsV, ↓reduceIte, Nat.reduceBEq, Nat.reduceAdd, Nat.reduceSub, Nat.reduceMul, Nat.reduceEqDiff, Nat.reduceLeDiff, Nat.reduceLT, effOf, effMem, effVar, effLit, effMake, effApp, lend, evLit, evNil, freeze, evField, evIndexT, orNil, evSlice, placeOf, evMap, mapOf, keyOk, evFrame, closed, fixed, sameEs, wit, Option.isSome_some, St.with, wantedD, Array.size, te, einl, inls, efr]
  · rw [cellsV_err rfl h] at k1
    generalize roomE ⟨rs, ds⟩ = e at *
    unfold encRoom at k1 ⊢
    simp (maxSteps := 1000000) (implicitDefEqProofs := false) only [Try.ntmps19, Try.results19, efc19, k1, ss, sd, evOp, evPlain, evVal, evMem, St.get, sliceOf, arrayOf, fieldsOf, normOf, norm, look, evVar, evFieldAddr, nameOf, St.alloc, St.drop, killOb, part, splice, depth, resultsV, ↓reduceIte, Nat.reduceBEq, Nat.reduceAdd, Nat.reduceSub, Nat.reduceMul, Nat.reduceEqDiff, Nat.reduceLeDiff, Nat.reduceLT, effOf, effMem, effVar, effLit, effMake, effApp, lend, evLit, evNil, freeze, evField, evIndexT, orNil, evSlice, placeOf, evMap, mapOf, keyOk, evFrame, closed, fixed, sameEs, wit, Option.isSome_some, St.with, wantedD, Array.size, te, einl, inls, efr]

def areaR (r : Room) : Int := if roomE r = 0 then areaM r.rects else 0
set_option maxHeartbeats 4000000 in
theorem c22 (r : Room) (hr : r.rects.length ≤ 1000000000) (hd : r.doors.length ≤ 1000000000) : (orcω E X0).call 22 [encRoom r] = some (.tup [.int .i64 (areaR r), .int .i64 (roomE r)]) := by
  refine call_of rfl fn22 rfl ?_
  have k1 := c19 r hr hd
  have ha := @roomE_all r
  have h8 := @roomE_zero r
  unfold areaR
  rcases roomE_cases r with h | h
  · rw [if_pos h]
    rw [h] at k1 ⊢
    replace ha := ha h
    replace h8 := (h8 h).1
    obtain ⟨rs, ds⟩ := r
    dsimp only at ha h8 ⊢
    unfold encRoom at k1 ⊢
    simp (maxSteps := 1000000) (implicitDefEqProofs := false) only [Try.ntmps22, Try.results22, efc22, fc22, k1, bne_self_eq_false, List.length_map, ss, sd, evOp, evPlain, evVal, evMem, St.get, sliceOf, arrayOf, fieldsOf, normOf, norm, look, evVar, evFieldAddr, nameOf, St.alloc, St.drop, killOb, part, splice, depth, resultsV, ↓reduceIte, Nat.reduceBEq, Nat.reduceAdd, Nat.reduceSub, Nat.reduceMul, Nat.reduceEqDiff, Nat.reduceLeDiff, Nat.reduceLT, effOf, effMem, effVar, effLit, effMake, effApp, lend, evLit, evNil, freeze, evField, evIndexT, orNil, evSlice, placeOf, evMap, mapOf, keyOk, evFrame, closed, fixed, sameEs, wit, Option.isSome_some, St.with, wantedD, Array.size, te, einl, inls, efr]
    generalize hr : loopAt _ _ _ _ _ _ = r; revert r
    refine loop_list rs (fun pre _ => [(5, .int .i64 (areaM pre)), (16, .int .i64 pre.length)]) (fun _ _ => []) (fun _ (_ : Unit) => True) () (by omega) (by simp (maxSteps := 1000000) (implicitDefEqProofs := false) only [areaM, List.map_nil, List.sum_nil, ss, sd, evOp, evPlain, evVal, evMem, St.get, sliceOf, arrayOf, fieldsOf, normOf, norm, look, evVar, evFieldAddr, nameOf, St.alloc, St.drop, killOb, part, splice, depth, resultsV, ↓reduceIte, Nat.reduceBEq, Nat.reduceAdd, Nat.reduceSub, Nat.reduceMul, Nat.reduceEqDiff, Nat.reduceLeDiff, Nat.reduceLT, effOf, effMem, effVar, effLit, effMake, effApp, lend, evLit, evNil, freeze, evField, evIndexT, orNil, evSlice, placeOf, evMap, mapOf, keyOk, evFrame, closed, fixed, sameEs, wit, Option.isSome_some, St.with, wantedD, Array.size, te, einl, inls, efr]) trivial (fun _ _ => ?_) (fun pre x post _ hp _ g1 g2 g3 g4 => ?_)
    · simp (maxSteps := 1000000) (implicitDefEqProofs := false) only [Int.lt_irrefl, Try.ntmps22, Try.results22, efc22, fc22, ss, sd, evOp, evPlain, evVal, evMem, St.get, sliceOf, arrayOf, fieldsOf, normOf, norm, look, evVar, evFieldAddr, nameOf, St.alloc, St.drop, killOb, part, splice, depth, resultsV, ↓reduceIte, Nat.reduceBEq, Nat.reduceAdd, Nat.reduceSub, Nat.reduceMul, Nat.reduceEqDiff, Nat.reduceLeDiff, Nat.reduceLT, effOf, effMem, effVar, effLit, effMake, effApp, lend, evLit, evNil, freeze, evField, evIndexT, orNil, evSlice, placeOf, evMap, mapOf, keyOk, evFrame, closed, fixed, sameEs, wit, Option.isSome_some, St.with, wantedD, Array.size, te, einl, inls, efr]
    · have hb := rectOk_iff.1 (ha x (by rw [hp]; simp))
      have b1 := areaM_in (rs := pre) fun a h => ha a (by rw [hp]; simp [h])
      have b2 : 0 ≤ x.w * x.h := Int.mul_nonneg (by omega) (by omega)
      have b3 : x.w * x.h ≤ 60 * 60 := Int.mul_le_mul (by omega) (by omega) (by omega) (by omega)
      have w1 : IntKind.i64.wrap (x.w * x.h) = x.w * x.h := wrap_in (by omega)
      have w2 : IntKind.i64.wrap (areaM pre + x.w * x.h) = areaM (pre ++ [x]) := by rw [wrap_in (by omega), areaM_snoc]
      simp (maxSteps := 1000000) (implicitDefEqProofs := false) only [g1, g2, g3, g4, w1, w2, encRect, Int.natCast_nonneg, Int.toNat_natCast, List.getElem?_map, List.length_map, ss, sd, evOp, evPlain, evVal, evMem, St.get, sliceOf, arrayOf, fieldsOf, normOf, norm, look, evVar, evFieldAddr, nameOf, St.alloc, St.drop, killOb, part, splice, depth, resultsV, ↓reduceIte, Nat.reduceBEq, Nat.reduceAdd, Nat.reduceSub, Nat.reduceMul, Nat.reduceEqDiff, Nat.reduceLeDiff, Nat.reduceLT, effOf, effMem, effVar, effLit, effMake, effApp, lend, evLit, evNil, freeze, evField, evIndexT, orNil, evSlice, placeOf, evMap, mapOf, keyOk, evFrame, closed, fixed, sameEs, wit, Option.isSome_some, St.with, wantedD, Array.size, te, einl, inls, efr]
      (first | exact ⟨(), trivial⟩ | refine ⟨(), ?_, trivial⟩ | skip)
  · rw [if_neg h]
    obtain ⟨rs, ds⟩ := r
    have h' : (roomE ⟨rs, ds⟩ != 0) = true := by simpa using h
    generalize roomE ⟨rs, ds⟩ = e at *
    unfold encRoom at k1 ⊢
    simp (maxSteps := 1000000) (implicitDefEqProofs := false) only [Try.ntmps22, Try.results22, efc22, fc22, k1, h', ss, sd, evOp, evPlain, evVal, evMem, St.get, sliceOf, arrayOf, fieldsOf, normOf, norm, look, evVar, evFieldAddr, nameOf, St.alloc, St.drop, killOb, part, splice, depth, resultsV, ↓reduceIte, Nat.reduceBEq, Nat.reduceAdd, Nat.reduceSub, Nat.reduceMul, Nat.reduceEqDiff, Nat.reduceLeDiff, Nat.reduceLT, effOf, effMem, effVar, effLit, effMake, effApp, lend, evLit, evNil, freeze, evField, evIndexT, orNil, evSlice, placeOf, evMap, mapOf, keyOk, evFrame, closed, fixed, sameEs, wit, Option.isSome_some, St.with, wantedD, Array.size, te, einl, inls, efr]

set_option maxHeartbeats 4000000 in
theorem c23 (r : Room) (hr : r.rects.length ≤ 1000000000) (hd : r.doors.length ≤ 1000000000) : (orcω E X0).call 23 [encRoom r] = some (.tup [.int .i64 (areaR r), .int .i64 (roomE r)]) := by
  refine call_of rfl fn23 rfl ?_
  have k1 := c26 r hr hd
  have k2 := fun h x y => c69 r x y h hr
  have ha := @roomE_all r
  have h8 := @roomE_zero r
  unfold areaR
  rcases roomE_cases r with h | h
  · rw [if_pos h]
    rw [h] at k1 ⊢
    replace ha := ha h
    replace h8 := (h8 h).2.2.1
    replace k2 := k2 ha
    rw [← area_cells ha h8]
    obtain ⟨rs, ds⟩ := r
    dsimp only at ha h8 k2 ⊢
    unfold encRoom at k1 k2 ⊢
    simp (maxSteps := 1000000) (implicitDefEqProofs := false) only [Try.ntmps23, Try.results23, efc23, fc23, k1, bne_self_eq_false, List.length_map, ss, sd, evOp, evPlain, evVal, evMem, St.get, sliceOf, arrayOf, fieldsOf, normOf, norm, look, evVar, evFieldAddr, nameOf, St.alloc, St.drop, killOb, part, splice, depth, resultsV, ↓reduceIte, Nat.reduceBEq, Nat.reduceAdd, Nat.reduceSub, Nat.reduceMul, Nat.reduceEqDiff, Nat.reduceLeDiff, Nat.reduceLT, effOf, effMem, effVar, effLit, effMake, effApp, lend, evLit, evNil, freeze, evField, evIndexT, orNil, evSlice, placeOf, evMap, mapOf, keyOk, evFrame, closed, fixed, sameEs, wit, Option.isSome_some, St.with, wantedD, Array.size, te, einl, inls, efr]
    generalize hr : loopAt _ _ _ _ _ _ = r; revert r
    refine loop_nat 60 (fun i _ => [(5, .int .i64 (cntX (cellM rs) i)), (6, .int .i64 (i : Nat))]) (fun _ _ => []) (fun _ (_ : Unit) => True) () (by omega) (by simp (maxSteps := 1000000) (implicitDefEqProofs := false) only [cntX, sumTo, ss, sd, evOp, evPlain, evVal, evMem, St.get, sliceOf, arrayOf, fieldsOf, normOf, norm, look, evVar, evFieldAddr, nameOf, St.alloc, St.drop, killOb, part, splice, depth, resultsV, ↓reduceIte, Nat.reduceBEq, Nat.reduceAdd, Nat.reduceSub, Nat.reduceMul, Nat.reduceEqDiff, Nat.reduceLeDiff, Nat.reduceLT, effOf, effMem, effVar, effLit, effMake, effApp, lend, evLit, evNil, freeze, evField, evIndexT, orNil, evSlice, placeOf, evMap, mapOf, keyOk, evFrame, closed, fixed, sameEs, wit, Option.isSome_some, St.with, wantedD, Array.size, te, einl, inls, efr]) trivial (fun _ _ => ?_) (fun i _ _ a1 a2 a3 => ?_)
    · have c1 : ¬ ((60 : Nat) : Int) < 60 := by omega
      simp (maxSteps := 1000000) (implicitDefEqProofs := false) only [c1, Try.ntmps23, Try.results23, efc23, fc23, ss, sd, evOp, evPlain, evVal, evMem, St.get, sliceOf, arrayOf, fieldsOf, normOf, norm, look, evVar, evFieldAddr, nameOf, St.alloc, St.drop, killOb, part, splice, depth, resultsV, ↓reduceIte, Nat.reduceBEq, Nat.reduceAdd, Nat.reduceSub, Nat.reduceMul, Nat.reduceEqDiff, Nat.reduceLeDiff, Nat.reduceLT, effOf, effMem, effVar, effLit, effMake, effApp, lend, evLit, evNil, freeze, evField, evIndexT, orNil, evSlice, placeOf, evMap, mapOf, keyOk, evFrame, closed, fixed, sameEs, wit, Option.isSome_some, St.with, wantedD, Array.size, te, einl, inls, efr]
    · have a4 : (i : Int) < 60 := by omega
      have b1 := cntX_in (cellM rs) i
      simp (maxSteps := 1000000) (implicitDefEqProofs := false) only [a4, a3, ss, sd, evOp, evPlain, evVal, evMem, St.get, sliceOf, arrayOf, fieldsOf, normOf, norm, look, evVar, evFieldAddr, nameOf, St.alloc, St.drop, killOb, part, splice, depth, resultsV, ↓reduceIte, Nat.reduceBEq, Nat.reduceAdd, Nat.reduceSub, Nat.reduceMul, Nat.reduceEqDiff, Nat.reduceLeDiff, Nat.reduceLT, effOf, effMem, effVar, effLit, effMake, effApp, lend, evLit, evNil, freeze, evField, evIndexT, orNil, evSlice, placeOf, evMap, mapOf, keyOk, evFrame, closed, fixed, sameEs, wit, Option.isSome_some, St.with, wantedD, Array.size, te, einl, inls, efr]
      generalize hr : loopAt _ _ _ _ _ _ = r; revert r
      refine loop_nat 60 (fun j _ => [(5, .int .i64 (cntX (cellM rs) i + cntY (cellM rs) i j)), (7, .int .i64 (j : Nat))]) (fun _ _ => []) (fun _ (_ : Unit) => True) () (by omega) (by simp (maxSteps := 1000000) (implicitDefEqProofs := false) only [cntY, sumTo, Int.add_zero, ss, sd, evOp, evPlain, evVal, evMem, St.get, sliceOf, arrayOf, fieldsOf, normOf, norm, look, evVar, evFieldAddr, nameOf, St.alloc, St.drop, killOb, part, splice, depth, resultsV, ↓reduceIte, Nat.reduceBEq, Nat.reduceAdd, Nat.reduceSub, Nat.reduceMul, Nat.reduceEqDiff, Nat.reduceLeDiff, Nat.reduceLT, effOf, effMem, effVar, effLit, effMake, effApp, lend, evLit, evNil, freeze, evField, evIndexT, orNil, evSlice, placeOf, evMap, mapOf, keyOk, evFrame, closed, fixed, sameEs, wit, Option.isSome_some, St.with, wantedD, Array.size, te, einl, inls, efr]) trivial (fun _ _ => ?_) (fun j _ _ c1 c2 c3 => ?_)
      · have c1 : ¬ ((60 : Nat) : Int) < 60 := by omega
        have e1 : cntX (cellM rs) i + cntY (cellM rs) i 60 = cntX (cellM rs) (i + 1) := rfl
        simp (maxSteps := 1000000) (implicitDefEqProofs := false) only [c1, a3, e1, ss, sd, evOp, evPlain, evVal, evMem, St.get, sliceOf, arrayOf, fieldsOf, normOf, norm, look, evVar, evFieldAddr, nameOf, St.alloc, St.drop, killOb, part, splice, depth, resultsV, ↓reduceIte, Nat.reduceBEq, Nat.reduceAdd, Nat.reduceSub, Nat.reduceMul, Nat.reduceEqDiff, Nat.reduceLeDiff, Nat.reduceLT, effOf, effMem, effVar, effLit, effMake, effApp, lend, evLit, evNil, freeze, evField, evIndexT, orNil, evSlice, placeOf, evMap, mapOf, keyOk, evFrame, closed, fixed, sameEs, wit, Option.isSome_some, St.with, wantedD, Array.size, te, einl, inls, efr]
        (first | exact ⟨(), trivial⟩ | refine ⟨(), ?_, trivial⟩ | skip)
      · have c4 : (j : Int) < 60 := by omega
        have b2 := cntY_in (cellM rs) i j
        have k3 := k2 i j
        have e1 : cntY (cellM rs) i (j + 1) = cntY (cellM rs) i j + if cellM rs i j = true then 1 else 0 := rfl
        cases hc : cellM rs i j with
        | true =>
          rw [hc] at k3 e1
          have w1 : IntKind.i64.wrap (cntX (cellM rs) i + cntY (cellM rs) i j + 1) = cntX (cellM rs) i + cntY (cellM rs) i (j + 1) := by rw [wrap_in (by omega), e1]; simp; omega
          simp (maxSteps := 1000000) (implicitDefEqProofs := false) only [c4, c3, k3, w1, ss, sd, evOp, evPlain, evVal, evMem, St.get, sliceOf, arrayOf, fieldsOf, normOf, norm, look, evVar, evFieldAddr, nameOf, St.alloc, St.drop, killOb, part, splice, depth, resultsV, ↓reduceIte, Nat.reduceBEq, Nat.reduceAdd, Nat.reduceSub, Nat.reduceMul, Nat.reduceEqDiff, Nat.reduceLeDiff, Nat.reduceLT, effOf, effMem, effVar, effLit, effMake, effApp, lend, evLit, evNil, freeze, evField, evIndexT, orNil, evSlice, placeOf, evMap, mapOf, keyOk, evFrame, closed, fixed, sameEs, wit, Option.isSome_some, St.with, wantedD, Array.size, te, einl, inls, efr]
          (first | exact ⟨(), trivial⟩ | refine ⟨(), ?_, trivial⟩ | skip)
        | false =>
          rw [hc] at k3 e1
          have w1 : cntY (cellM rs) i (j + 1) = cntY (cellM rs) i j := by rw [e1]; simp
          simp (maxSteps := 1000000) (implicitDefEqProofs := false) only [c4, c3, k3, w1, ss, sd, evOp, evPlain, evVal, evMem, St.get, sliceOf, arrayOf, fieldsOf, normOf, norm, look, evVar, evFieldAddr, nameOf, St.alloc, St.drop, killOb, part, splice, depth, resultsV, ↓reduceIte, Nat.reduceBEq, Nat.reduceAdd, Nat.reduceSub, Nat.reduceMul, Nat.reduceEqDiff, Nat.reduceLeDiff, Nat.reduceLT, effOf, effMem, effVar, effLit, effMake, effApp, lend, evLit, evNil, freeze, evField, evIndexT, orNil, evSlice, placeOf, evMap, mapOf, keyOk, evFrame, closed, fixed, sameEs, wit, Option.isSome_some, St.with, wantedD, Array.size, te, einl, inls, efr]
          (first | exact ⟨(), trivial⟩ | refine ⟨(), ?_, trivial⟩ | skip)
  · rw [if_neg h]
    obtain ⟨rs, ds⟩ := r
    have h' : (roomE ⟨rs, ds⟩ != 0) = true := by simpa using h
    generalize roomE ⟨rs, ds⟩ = e at *
    unfold encRoom at k1 ⊢
    simp (maxSteps := 1000000) (implicitDefEqProofs := false) only [Try.ntmps23, Try.results23, efc23, fc23, k1, h', ss, sd, evOp, evPlain, evVal, evMem, St.get, sliceOf, arrayOf, fieldsOf, normOf, norm, look, evVar, evFieldAddr, nameOf, St.alloc, St.drop, killOb, part, splice, depth, resultsV, ↓reduceIte, Nat.reduceBEq, Nat.reduceAdd, Nat.reduceSub, Nat.reduceMul, Nat.reduceEqDiff, Nat.reduceLeDiff, Nat.reduceLT, effOf, effMem, effVar, effLit, effMake, effApp, lend, evLit, evNil, freeze, evField, evIndexT, orNil, evSlice, placeOf, evMap, mapOf, keyOk, evFrame, closed, fixed, sameEs, wit, Option.isSome_some, St.with, wantedD, Array.size, te, einl, inls, efr]

def hasR (r : Room) (x y : Int) : Bool := decide (roomE r = 0) && cellM r.rects x y
theorem c24 (r : Room) (x y : Int) (hr : r.rects.length ≤ 1000000000) (hd : r.doors.length ≤ 1000000000) : (orcω E X0).call 24 [encRoom r, .int .i64 x, .int .i64 y] = some (.tup [.bool (hasR r x y), .int .i64 (roomE r)]) := by
  refine call_of rfl fn24 rfl ?_
  have k1 := c60 r hr hd
  have ha := @roomE_all r
  unfold hasR
  rcases roomE_cases r with h | h
  · rw [cellsV_ok h] at k1
    rw [h]
    have k2 := k70 (cells_inside (ha h)) x y
    obtain ⟨rs, ds⟩ := r
    unfold encRoom at k1 ⊢
    have e : gridOf rs = gridF (cellM rs) := rfl
    rw [e] at k1
    simp (maxSteps := 1000000) (implicitDefEqProofs := false) only [Try.ntmps24, Try.results24, efc24, k1, k2, bne_self_eq_false, ss, sd, evOp, evPlain, evVal, evMem, St.get, sliceOf, arrayOf, fieldsOf, normOf, norm, look, evVar, evFieldAddr, nameOf, St.alloc, St.drop, killOb, part, splice, depth, resultsV, ↓reduceIte, Nat.reduceBEq, Nat.reduceAdd, Nat.reduceSub, Nat.reduceMul, Nat.reduceEqDiff, Nat.reduceLeDiff, Nat.reduceLT, effOf, effMem, effVar, effLit, effMake, effApp, lend, evLit, evNil, freeze, evField, evIndexT, orNil, evSlice, placeOf, evMap, mapOf, keyOk, evFrame, closed, fixed, sameEs, wit, Option.isSome_some, St.with, wantedD, Array.size, te, einl, inls, efr]
  · rw [cellsV_err rfl h] at k1
    rw [decide_eq_false h]
    obtain ⟨rs, ds⟩ := r
    have h' : (roomE ⟨rs, ds⟩ != 0) = true := by simpa using h
    generalize roomE ⟨rs, ds⟩ = e at *
    unfold encRoom at k1 ⊢
    simp (maxSteps := 1000000) (implicitDefEqProofs := false) only [Try.ntmps24, Try.results24, efc24, k1, h', ss, sd, evOp, evPlain, evVal, evMem, St.get, sliceOf, arrayOf, fieldsOf, normOf, norm, look, evVar, evFieldAddr, nameOf, St.alloc, St.drop, killOb, part, splice, depth, resultsV, ↓reduceIte, Nat.reduceBEq, Nat.reduceAdd, Nat.reduceSub, Nat.reduceMul, Nat.reduceEqDiff, Nat.reduceLeDiff, Nat.reduceLT, effOf, effMem, effVar, effLit, effMake, effApp, lend, evLit, evNil, freeze, evField, evIndexT, orNil, evSlice, placeOf, evMap, mapOf, keyOk, evFrame, closed, fixed, sameEs, wit, Option.isSome_some, St.with, wantedD, Array.size, te, einl, inls, efr]

theorem c25 (r : Room) (x y : Int) (hr : r.rects.length ≤ 1000000000) (hd : r.doors.length ≤ 1000000000) : (orcω E X0).call 25 [encRoom r, .int .i64 x, .int .i64 y] = some (.tup [.bool (hasR r x y), .int .i64 (roomE r)]) := by
  refine call_of rfl fn25 rfl ?_
  have k1 := c26 r hr hd
  have k2 := fun h => c69 r x y h hr
  have ha := @roomE_all r
  unfold hasR
  rcases roomE_cases r with h | h
  · replace k2 := k2 (ha h)
    rw [h] at k1 ⊢
    obtain ⟨rs, ds⟩ := r
    unfold encRoom at k1 k2 ⊢
    simp (maxSteps := 1000000) (implicitDefEqProofs := false) only [Try.ntmps25, Try.results25, efc25, k1, k2, beq_self_eq_true, ss, sd, evOp, evPlain, evVal, evMem, St.get, sliceOf, arrayOf, fieldsOf, normOf, norm, look, evVar, evFieldAddr, nameOf, St.alloc, St.drop, killOb, part, splice, depth, resultsV, ↓reduceIte, Nat.reduceBEq, Nat.reduceAdd, Nat.reduceSub, Nat.reduceMul, Nat.reduceEqDiff, Nat.reduceLeDiff, Nat.reduceLT, effOf, effMem, effVar, effLit, effMake, effApp, lend, evLit, evNil, freeze, evField, evIndexT, orNil, evSlice, placeOf, evMap, mapOf, keyOk, evFrame, closed, fixed, sameEs, wit, Option.isSome_some, St.with, wantedD, Array.size, te, einl, inls, efr]
  · rw [decide_eq_false h]
    obtain ⟨rs, ds⟩ := r
    have h' : (roomE ⟨rs, ds⟩ == 0) = false := by simpa using h
    generalize roomE ⟨rs, ds⟩ = e at *
    unfold encRoom at k1 ⊢
    simp (maxSteps := 1000000) (implicitDefEqProofs := false) only [Try.ntmps25, Try.results25, efc25, k1, h', ss, sd, evOp, evPlain, evVal, evMem, St.get, sliceOf, arrayOf, fieldsOf, normOf, norm, look, evVar, evFieldAddr, nameOf, St.alloc, St.drop, killOb, part, splice, depth, resultsV, ↓reduceIte, Nat.reduceBEq, Nat.reduceAdd, Nat.reduceSub, Nat.reduceMul, Nat.reduceEqDiff, Nat.reduceLeDiff, Nat.reduceLT, effOf, effMem, effVar, effLit, effMake, effApp, lend, evLit, evNil, freeze, evField, evIndexT, orNil, evSlice, placeOf, evMap, mapOf, keyOk, evFrame, closed, fixed, sameEs, wit, Option.isSome_some, St.with, wantedD, Array.size, te, einl, inls, efr]

/-- Lists that are too long for a statement. -/
def manyM (r : Room) (l : List Strip) : Bool := decide (20 < r.rects.length) || decide (20 < r.doors.length) || decide (60 < l.length)
theorem c16 (r : Room) (l : List Strip) : (orcω E X0).call 16 [encRoom r, .sl false (l.map encStrip)] = some (.bool (manyM r l)) := by
  refine call_of rfl fn16 rfl ?_
  obtain ⟨rs, ds⟩ := r
  unfold manyM encRoom
  dsimp only
  have e1 : (20 < rs.length) ↔ ((20 : Int) < rs.length) := by omega
  have e2 : (20 < ds.length) ↔ ((20 : Int) < ds.length) := by omega
  have e3 : (60 < l.length) ↔ ((60 : Int) < l.length) := by omega
  by_cases h1 : (20 : Int) < rs.length
  · simp (maxSteps := 1000000) (implicitDefEqProofs := false) only [Try.ntmps16, Try.results16, efc16, e1, h1, List.length_map, ss, sd, evOp, evPlain, evVal, evMem, St.get, sliceOf, arrayOf, fieldsOf, normOf, norm, look, evVar, evFieldAddr, nameOf, St.alloc, St.drop, killOb, part, splice, depth, resultsV, ↓reduceIte, Nat.reduceBEq, Nat.reduceAdd, Nat.reduceSub, Nat.reduceMul, Nat.reduceEqDiff, Nat.reduceLeDiff, Nat.reduceLT, effOf, effMem, effVar, effLit, effMake, effApp, lend, evLit, evNil, freeze, evField, evIndexT, orNil, evSlice, placeOf, evMap, mapOf, keyOk, evFrame, closed, fixed, sameEs, wit, Option.isSome_some, St.with, wantedD, Array.size, te, einl, inls, efr]
  by_cases h2 : (20 : Int) < ds.length
  · simp (maxSteps := 1000000) (implicitDefEqProofs := false) only [Try.ntmps16, Try.results16, efc16, e1, e2, h1, h2, List.length_map, ss, sd, evOp, evPlain, evVal, evMem, St.get, sliceOf, arrayOf, fieldsOf, normOf, norm, look, evVar, evFieldAddr, nameOf, St.alloc, St.drop, killOb, part, splice, depth, resultsV, ↓reduceIte, Nat.reduceBEq, Nat.reduceAdd, Nat.reduceSub, Nat.reduceMul, Nat.reduceEqDiff, Nat.reduceLeDiff, Nat.reduceLT, effOf, effMem, effVar, effLit, effMake, effApp, lend, evLit, evNil, freeze, evField, evIndexT, orNil, evSlice, placeOf, evMap, mapOf, keyOk, evFrame, closed, fixed, sameEs, wit, Option.isSome_some, St.with, wantedD, Array.size, te, einl, inls, efr]
  · simp (maxSteps := 1000000) (implicitDefEqProofs := false) only [Try.ntmps16, Try.results16, efc16, e1, e2, e3, h1, h2, List.length_map, ss, sd, evOp, evPlain, evVal, evMem, St.get, sliceOf, arrayOf, fieldsOf, normOf, norm, look, evVar, evFieldAddr, nameOf, St.alloc, St.drop, killOb, part, splice, depth, resultsV, ↓reduceIte, Nat.reduceBEq, Nat.reduceAdd, Nat.reduceSub, Nat.reduceMul, Nat.reduceEqDiff, Nat.reduceLeDiff, Nat.reduceLT, effOf, effMem, effVar, effLit, effMake, effApp, lend, evLit, evNil, freeze, evField, evIndexT, orNil, evSlice, placeOf, evMap, mapOf, keyOk, evFrame, closed, fixed, sameEs, wit, Option.isSome_some, St.with, wantedD, Array.size, te, einl, inls, efr]
end Go.AM.D
