/-
The laws of rooms, strips, offsets and covers.
-/
import Derived.Test.YtejjeckiplihbaaDSaneB
import Derived.Test.YtejjeckiplihbaaDCovers
set_option linter.unusedSimpArgs false
set_option maxRecDepth 20000

namespace Go.AM.D
open Go Go.AM Go.Proofs

theorem many_no {r : Room} {l : List Strip} (h : manyM r l = false) : r.rects.length ≤ 1000000000 ∧ r.doors.length ≤ 1000000000 ∧ l.length ≤ 1000000000 := by
  unfold manyM at h
  simp only [Bool.or_eq_false_iff, decide_eq_false_iff_not] at h
  omega

theorem okT5 : okCode (Try.f5.body.getD .skip) = true := by decide +kernel
set_option maxRecDepth 20000 in
set_option maxHeartbeats 8000000 in
theorem c5 (r : Room) (x y : Int) : (orcω E X0).call 5 [encRoom r, .int .i64 x, .int .i64 y] = some (.bool true) := by
  refine call_of rfl fn5 rfl ?_
  have hok := okT5
  simp only [Try.f5, Option.getD_some, okCode, Bool.and_eq_true, Bool.and_true, Bool.true_and] at hok
  have k0 := c16 r []
  have k1 := c17
  rw [List.map_nil] at k0
  cases h : manyM r [] with
  | true =>
    rw [h] at k0
    obtain ⟨rs, ds⟩ := r
    unfold encRoom at k0 ⊢
    simp (maxSteps := 1000000) (implicitDefEqProofs := false) only [Try.ntmps5, Try.results5, efc5, k0, k1, ss, sd, evOp, evPlain, evVal, evMem, St.get, sliceOf, arrayOf, fieldsOf, normOf, norm, look, evVar, evFieldAddr, nameOf, St.alloc, St.drop, killOb, part, splice, depth, resultsV, ↓reduceIte, Nat.reduceBEq, Nat.reduceAdd, Nat.reduceSub, Nat.reduceMul, Nat.reduceEqDiff, Nat.reduceLeDiff, Nat.reduceLT, effOf, effMem, effVar, effLit, effMake, effApp, lend, evLit, evNil, freeze, evField, evIndexT, orNil, evSlice, placeOf, evMap, mapOf, keyOk, evFrame, closed, fixed, sameEs, wit, Option.isSome_some, St.with, wantedD, Array.size, te, einl, inls, efr]
  | false =>
    rw [h] at k0
    obtain ⟨h1, h2, _⟩ := many_no h
    have k2 := c22 r h1 h2
    have k3 := c23 r h1 h2
    have k4 := c24 r x y h1 h2
    have k5 := c25 r x y h1 h2
    have k6 := c19 r h1 h2
    have k7 := c26 r h1 h2
    obtain ⟨rs, ds⟩ := r
    unfold encRoom at k0 k2 k3 k4 k5 k6 k7 ⊢
    simp (maxSteps := 1000000) (implicitDefEqProofs := false) only [Try.ntmps5, Try.results5, efc5, evRegion_st hok, k0, k1, k2, k3, k4, k5, k6, k7, beq_self_eq_true, ss, sd, evOp, evPlain, evVal, evMem, St.get, sliceOf, arrayOf, fieldsOf, normOf, norm, look, evVar, evFieldAddr, nameOf, St.alloc, St.drop, killOb, part, splice, depth, resultsV, ↓reduceIte, Nat.reduceBEq, Nat.reduceAdd, Nat.reduceSub, Nat.reduceMul, Nat.reduceEqDiff, Nat.reduceLeDiff, Nat.reduceLT, effOf, effMem, effVar, effLit, effMake, effApp, lend, evLit, evNil, freeze, evField, evIndexT, orNil, evSlice, placeOf, evMap, mapOf, keyOk, evFrame, closed, fixed, sameEs, wit, Option.isSome_some, St.with, wantedD, Array.size, te, einl, inls, efr]

set_option maxRecDepth 20000 in
set_option maxHeartbeats 8000000 in
theorem c8 (r : Room) (w : Int) : (orcω E X0).call 8 [encRoom r, .int .i64 w] = some (.bool true) := by
  refine call_of rfl fn8 rfl ?_
  have k0 := c16 r []
  have k1 := c17
  rw [List.map_nil] at k0
  cases h : manyM r [] with
  | true =>
    rw [h] at k0
    obtain ⟨rs, ds⟩ := r
    unfold encRoom at k0 ⊢
    simp (maxSteps := 1000000) (implicitDefEqProofs := false) only [Try.ntmps8, Try.results8, efc8, k0, k1, ss, sd, evOp, evPlain, evVal, evMem, St.get, sliceOf, arrayOf, fieldsOf, normOf, norm, look, evVar, evFieldAddr, nameOf, St.alloc, St.drop, killOb, part, splice, depth, resultsV, ↓reduceIte, Nat.reduceBEq, Nat.reduceAdd, Nat.reduceSub, Nat.reduceMul, Nat.reduceEqDiff, Nat.reduceLeDiff, Nat.reduceLT, effOf, effMem, effVar, effLit, effMake, effApp, lend, evLit, evNil, freeze, evField, evIndexT, orNil, evSlice, placeOf, evMap, mapOf, keyOk, evFrame, closed, fixed, sameEs, wit, Option.isSome_some, St.with, wantedD, Array.size, te, einl, inls, efr]
  | false =>
    rw [h] at k0
    obtain ⟨h1, h2, _⟩ := many_no h
    have k2 := c36 r w h1 h2
    have k3 := c37 r w h1 h2
    unfold encBest at k2 k3
    obtain ⟨rs, ds⟩ := r
    unfold encRoom at k0 k2 k3 ⊢
    simp (maxSteps := 1000000) (implicitDefEqProofs := false) only [Try.ntmps8, Try.results8, efc8, k0, k1, k2, k3, beq_self_eq_true, ss, sd, evOp, evPlain, evVal, evMem, St.get, sliceOf, arrayOf, fieldsOf, normOf, norm, look, evVar, evFieldAddr, nameOf, St.alloc, St.drop, killOb, part, splice, depth, resultsV, ↓reduceIte, Nat.reduceBEq, Nat.reduceAdd, Nat.reduceSub, Nat.reduceMul, Nat.reduceEqDiff, Nat.reduceLeDiff, Nat.reduceLT, effOf, effMem, effVar, effLit, effMake, effApp, lend, evLit, evNil, freeze, evField, evIndexT, orNil, evSlice, placeOf, evMap, mapOf, keyOk, evFrame, closed, fixed, sameEs, wit, Option.isSome_some, St.with, wantedD, Array.size, te, einl, inls, efr]

theorem seamsV_len {r : Room} {w o : Int} : (seamsV r w o).length ≤ 62 := by
  unfold seamsV
  split
  · exact seams_len
  · simp
theorem stripsV_len {r : Room} {w o : Int} : (stripsV r w o).length ≤ 82 := by
  unfold stripsV
  split
  · exact strips_len
  · simp
def encLines (w o : Int) : V := .agg [.int .i64 w, .int .i64 o]

set_option maxRecDepth 20000 in
set_option maxHeartbeats 8000000 in
theorem c7 (r : Room) (w o : Int) : (orcω E X0).call 7 [encRoom r, encLines w o] = some (.bool true) := by
  refine call_of rfl fn7 rfl ?_
  have k0 := c16 r []
  have k1 := c17
  rw [List.map_nil] at k0
  unfold encLines
  cases h : manyM r [] with
  | true =>
    rw [h] at k0
    obtain ⟨rs, ds⟩ := r
    unfold encRoom at k0 ⊢
    simp (maxSteps := 1000000) (implicitDefEqProofs := false) only [Try.ntmps7, Try.results7, efc7, k0, k1, ss, sd, evOp, evPlain, evVal, evMem, St.get, sliceOf, arrayOf, fieldsOf, normOf, norm, look, evVar, evFieldAddr, nameOf, St.alloc, St.drop, killOb, part, splice, depth, resultsV, ↓reduceIte, Nat.reduceBEq, Nat.reduceAdd, Nat.reduceSub, Nat.reduceMul, Nat.reduceEqDiff, Nat.reduceLeDiff, Nat.reduceLT, effOf, effMem, effVar, effLit, effMake, effApp, lend, evLit, evNil, freeze, evField, evIndexT, orNil, evSlice, placeOf, evMap, mapOf, keyOk, evFrame, closed, fixed, sameEs, wit, Option.isSome_some, St.with, wantedD, Array.size, te, einl, inls, efr]
  | false =>
    rw [h] at k0
    obtain ⟨h1, h2, _⟩ := many_no h
    have k2 := c18 r w o h1 h2
    have k3 := c29 r w o h1 h2
    have k4 := c30 r w o h1 h2
    have k5 := c31 r w o h1 h2
    have k6 := c32 r w o h1 h2
    have k7 := c33 r w o h1 h2
    have l1 := stripsV_len (r := r) (w := w) (o := o)
    have l2 := seamsV_len (r := r) (w := w) (o := o)
    have k8 := c34 (stripsV r w o) (by omega)
    have k9 := c35 (seamsV r w o) (by omega)
    generalize stripsV r w o = st at *
    generalize seamsV r w o = se at *
    generalize doorV r w o = dr at *
    generalize dividedE r w o = er at *
    have f1 := free_strips st
    have n1 := new_strips st
    have f2 : refFreeL (se.map vI) = true := refFreeL_map (fun _ => rfl) se
    have n2 : isNewL (se.map vI) = true := isNewL_map (fun _ => rfl) se
    obtain ⟨rs, ds⟩ := r
    unfold encRoom at k0 k2 k3 k4 k5 k6 k7 ⊢
    simp (maxSteps := 1000000) (implicitDefEqProofs := false) only [Try.ntmps7, Try.results7, efc7, k0, k1, k2, k3, k4, k5, k6, k7, k8, k9, f1, n1, f2, n2, beq_self_eq_true, ss, sd, evOp, evPlain, evVal, evMem, St.get, sliceOf, arrayOf, fieldsOf, normOf, norm, look, evVar, evFieldAddr, nameOf, St.alloc, St.drop, killOb, part, splice, depth, resultsV, ↓reduceIte, Nat.reduceBEq, Nat.reduceAdd, Nat.reduceSub, Nat.reduceMul, Nat.reduceEqDiff, Nat.reduceLeDiff, Nat.reduceLT, effOf, effMem, effVar, effLit, effMake, effApp, lend, evLit, evNil, freeze, evField, evIndexT, orNil, evSlice, placeOf, evMap, mapOf, keyOk, evFrame, closed, fixed, sameEs, wit, Option.isSome_some, St.with, wantedD, Array.size, te, einl, inls, efr]

set_option maxRecDepth 20000 in
set_option maxHeartbeats 8000000 in
theorem c6 (r : Room) (w o : Int) (l : List Strip) : (orcω E X0).call 6 [encRoom r, encLines w o, .sl false (l.map encStrip)] = some (.bool true) := by
  refine call_of rfl fn6 rfl ?_
  have k0 := c16 r l
  have k1 := c17
  unfold encLines
  cases h : manyM r l with
  | true =>
    rw [h] at k0
    obtain ⟨rs, ds⟩ := r
    unfold encRoom at k0 ⊢
    simp (maxSteps := 1000000) (implicitDefEqProofs := false) only [Try.ntmps6, Try.results6, efc6, k0, k1, ss, sd, evOp, evPlain, evVal, evMem, St.get, sliceOf, arrayOf, fieldsOf, normOf, norm, look, evVar, evFieldAddr, nameOf, St.alloc, St.drop, killOb, part, splice, depth, resultsV, ↓reduceIte, Nat.reduceBEq, Nat.reduceAdd, Nat.reduceSub, Nat.reduceMul, Nat.reduceEqDiff, Nat.reduceLeDiff, Nat.reduceLT, effOf, effMem, effVar, effLit, effMake, effApp, lend, evLit, evNil, freeze, evField, evIndexT, orNil, evSlice, placeOf, evMap, mapOf, keyOk, evFrame, closed, fixed, sameEs, wit, Option.isSome_some, St.with, wantedD, Array.size, te, einl, inls, efr]
  | false =>
    rw [h] at k0
    obtain ⟨h1, h2, h3⟩ := many_no h
    have k2 := c27 r w l h1 h2 h3
    have k3 := c28 r w l h1 h2 h3
    have k4 := c18 r w o h1 h2
    have l1 := stripsV_len (r := r) (w := w) (o := o)
    have k5 := c27 r w (stripsV r w o) h1 h2 (by omega)
    by_cases he : dividedE r w o = 0
    · have hc : coversV r w (stripsV r w o) = true ∧ dividedE r w 0 = 0 := by
        obtain ⟨a1, a2, a3⟩ := dividedE_zero he
        have he0 : dividedE r w 0 = 0 := by
          unfold dividedE
          rw [if_neg (by rw [a1]; decide), if_pos ⟨inB_iff.2 a2, inB_iff.2 ⟨by omega, by omega⟩⟩]
        refine ⟨?_, he0⟩
        unfold coversV stripsV
        rw [if_pos he0, if_pos he]
        exact covers_strips (cells_inside (roomE_all a1)) a2.1 a2.2 a3.1 a3.2
      rw [hc.1] at k5
      rw [hc.2] at k2 k3 k5
      rw [he] at k4
      generalize stripsV r w o = st at *
      generalize coversV r w l = cv at *
      have f1 := free_strips st
      have n1 := new_strips st
      obtain ⟨rs, ds⟩ := r
      unfold encRoom at k0 k2 k3 k4 k5 ⊢
      simp (maxSteps := 1000000) (implicitDefEqProofs := false) only [Try.ntmps6, Try.results6, efc6, k0, k1, k2, k3, k4, k5, f1, n1, bne_self_eq_false, beq_self_eq_true, ss, sd, evOp, evPlain, evVal, evMem, St.get, sliceOf, arrayOf, fieldsOf, normOf, norm, look, evVar, evFieldAddr, nameOf, St.alloc, St.drop, killOb, part, splice, depth, resultsV, ↓reduceIte, Nat.reduceBEq, Nat.reduceAdd, Nat.reduceSub, Nat.reduceMul, Nat.reduceEqDiff, Nat.reduceLeDiff, Nat.reduceLT, effOf, effMem, effVar, effLit, effMake, effApp, lend, evLit, evNil, freeze, evField, evIndexT, orNil, evSlice, placeOf, evMap, mapOf, keyOk, evFrame, closed, fixed, sameEs, wit, Option.isSome_some, St.with, wantedD, Array.size, te, einl, inls, efr]
    · have he' : (dividedE r w o != 0) = true := by simpa using he
      generalize stripsV r w o = st at *
      generalize coversV r w l = cv at *
      generalize dividedE r w 0 = e0 at *
      generalize dividedE r w o = e1 at *
      have f1 := free_strips st
      have n1 := new_strips st
      obtain ⟨rs, ds⟩ := r
      unfold encRoom at k0 k2 k3 k4 k5 ⊢
      simp (maxSteps := 1000000) (implicitDefEqProofs := false) only [Try.ntmps6, Try.results6, efc6, k0, k1, k2, k3, k4, k5, f1, n1, he', bne_self_eq_false, beq_self_eq_true, ss, sd, evOp, evPlain, evVal, evMem, St.get, sliceOf, arrayOf, fieldsOf, normOf, norm, look, evVar, evFieldAddr, nameOf, St.alloc, St.drop, killOb, part, splice, depth, resultsV, ↓reduceIte, Nat.reduceBEq, Nat.reduceAdd, Nat.reduceSub, Nat.reduceMul, Nat.reduceEqDiff, Nat.reduceLeDiff, Nat.reduceLT, effOf, effMem, effVar, effLit, effMake, effApp, lend, evLit, evNil, freeze, evField, evIndexT, orNil, evSlice, placeOf, evMap, mapOf, keyOk, evFrame, closed, fixed, sameEs, wit, Option.isSome_some, St.with, wantedD, Array.size, te, einl, inls, efr]
end Go.AM.D
