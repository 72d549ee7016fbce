/-
Strips that cover a room (floor and the document).
-/
import Derived.Test.YtejjeckiplihbaaDStripV
import Derived.Test.YtejjeckiplihbaaDRndG
set_option linter.unusedSimpArgs false
set_option maxRecDepth 20000

namespace Go.AM.D
open Go Go.AM Go.Proofs

theorem covers_yes {f : Int → Int → Bool} {w : Int} {l : List Strip} (h : ∀ x y : Nat, x < 60 → y < 60 → f x y = true → l.countP (lies w x y) = 1) : coversM f w l = true := by
  unfold coversM
  rw [List.all_eq_true]
  intro x hx
  rw [List.all_eq_true]
  intro y hy
  cases hc : f x y with
  | false => rfl
  | true => rw [h x y (List.mem_range.1 hx) (List.mem_range.1 hy) hc]; rfl
theorem covers_no {f : Int → Int → Bool} {w : Int} {l : List Strip} {x y : Nat} (hx : x < 60) (hy : y < 60) (hc : f x y = true) (h : ¬ l.countP (lies w x y) = 1) : coversM f w l = false := by
  rw [Bool.eq_false_iff]
  intro hh
  unfold coversM at hh
  have h1 := List.all_eq_true.1 (List.all_eq_true.1 hh x (List.mem_range.2 hx)) y (List.mem_range.2 hy)
  rw [hc] at h1
  simp at h1
  exact h h1

set_option maxHeartbeats 4000000 in
theorem c72 (s : Strip) (w x y : Int) (hx : 0 ≤ x ∧ x < 60) (hw : 1 ≤ w ∧ w ≤ 20) : (orcω E X0).call 72 [encStrip s, .int .i64 w, .int .i64 x, .int .i64 y] = some (.bool (lies w x y s)) := by
  refine call_of rfl fn72 rfl ?_
  have w1 : IntKind.i64.wrap (x - w) = x - w := wrap_in (by omega)
  have e1 := lies_iff (w := w) (x := x) (y := y) (s := s)
  have e2 := lies_no (w := w) (x := x) (y := y) (s := s)
  obtain ⟨a, b, c⟩ := s
  dsimp only at e1 e2
  unfold encStrip
  generalize lies w x y ⟨a, b, c⟩ = r at *
  by_cases h1 : a ≤ x
  · by_cases h2 : x - w < a
    · by_cases h3 : b ≤ y
      · by_cases h4 : y < c
        · have r1 := e1.2 (by omega)
          simp (maxSteps := 1000000) (implicitDefEqProofs := false) only [Try.ntmps72, Try.results72, efc72, w1, h1, h2, h3, h4, r1, ss, sd, evOp, evPlain, evVal, evMem, St.get, sliceOf, arrayOf, fieldsOf, normOf, norm, look, evVar, evFieldAddr, nameOf, St.alloc, St.drop, killOb, part, splice, depth, resultsV, ↓reduceIte, Nat.reduceBEq, Nat.reduceAdd, Nat.reduceSub, Nat.reduceMul, Nat.reduceEqDiff, Nat.reduceLeDiff, Nat.reduceLT, effOf, effMem, effVar, effLit, effMake, effApp, lend, evLit, evNil, freeze, evField, evIndexT, orNil, evSlice, placeOf, evMap, mapOf, keyOk, evFrame, closed, fixed, sameEs, wit, Option.isSome_some, St.with, wantedD, Array.size, te, einl, inls, efr]
        · have r1 := e2 (by omega)
          simp (maxSteps := 1000000) (implicitDefEqProofs := false) only [Try.ntmps72, Try.results72, efc72, w1, h1, h2, h3, h4, r1, ss, sd, evOp, evPlain, evVal, evMem, St.get, sliceOf, arrayOf, fieldsOf, normOf, norm, look, evVar, evFieldAddr, nameOf, St.alloc, St.drop, killOb, part, splice, depth, resultsV, ↓reduceIte, Nat.reduceBEq, Nat.reduceAdd, Nat.reduceSub, Nat.reduceMul, Nat.reduceEqDiff, Nat.reduceLeDiff, Nat.reduceLT, effOf, effMem, effVar, effLit, effMake, effApp, lend, evLit, evNil, freeze, evField, evIndexT, orNil, evSlice, placeOf, evMap, mapOf, keyOk, evFrame, closed, fixed, sameEs, wit, Option.isSome_some, St.with, wantedD, Array.size, te, einl, inls, efr]
      · have r1 := e2 (by omega)
        simp (maxSteps := 1000000) (implicitDefEqProofs := false) only [Try.ntmps72, Try.results72, efc72, w1, h1, h2, h3, r1, ss, sd, evOp, evPlain, evVal, evMem, St.get, sliceOf, arrayOf, fieldsOf, normOf, norm, look, evVar, evFieldAddr, nameOf, St.alloc, St.drop, killOb, part, splice, depth, resultsV, ↓reduceIte, Nat.reduceBEq, Nat.reduceAdd, Nat.reduceSub, Nat.reduceMul, Nat.reduceEqDiff, Nat.reduceLeDiff, Nat.reduceLT, effOf, effMem, effVar, effLit, effMake, effApp, lend, evLit, evNil, freeze, evField, evIndexT, orNil, evSlice, placeOf, evMap, mapOf, keyOk, evFrame, closed, fixed, sameEs, wit, Option.isSome_some, St.with, wantedD, Array.size, te, einl, inls, efr]
    · have r1 := e2 (by omega)
      simp (maxSteps := 1000000) (implicitDefEqProofs := false) only [Try.ntmps72, Try.results72, efc72, w1, h1, h2, r1, ss, sd, evOp, evPlain, evVal, evMem, St.get, sliceOf, arrayOf, fieldsOf, normOf, norm, look, evVar, evFieldAddr, nameOf, St.alloc, St.drop, killOb, part, splice, depth, resultsV, ↓reduceIte, Nat.reduceBEq, Nat.reduceAdd, Nat.reduceSub, Nat.reduceMul, Nat.reduceEqDiff, Nat.reduceLeDiff, Nat.reduceLT, effOf, effMem, effVar, effLit, effMake, effApp, lend, evLit, evNil, freeze, evField, evIndexT, orNil, evSlice, placeOf, evMap, mapOf, keyOk, evFrame, closed, fixed, sameEs, wit, Option.isSome_some, St.with, wantedD, Array.size, te, einl, inls, efr]
  · have r1 := e2 (by omega)
    simp (maxSteps := 1000000) (implicitDefEqProofs := false) only [Try.ntmps72, Try.results72, efc72, w1, h1, r1, ss, sd, evOp, evPlain, evVal, evMem, St.get, sliceOf, arrayOf, fieldsOf, normOf, norm, look, evVar, evFieldAddr, nameOf, St.alloc, St.drop, killOb, part, splice, depth, resultsV, ↓reduceIte, Nat.reduceBEq, Nat.reduceAdd, Nat.reduceSub, Nat.reduceMul, Nat.reduceEqDiff, Nat.reduceLeDiff, Nat.reduceLT, effOf, effMem, effVar, effLit, effMake, effApp, lend, evLit, evNil, freeze, evField, evIndexT, orNil, evSlice, placeOf, evMap, mapOf, keyOk, evFrame, closed, fixed, sameEs, wit, Option.isSome_some, St.with, wantedD, Array.size, te, einl, inls, efr]

def coversV (r : Room) (w : Int) (l : List Strip) : Bool := if dividedE r w 0 = 0 then coversM (cellM r.rects) w l else false
theorem ne_one {n : Nat} (h : ¬ n = 1) : (((n : Nat) : Int) != 1) = true := by
  rw [bne_iff_ne]; omega
theorem eq_one {n : Nat} (h : n = 1) : (((n : Nat) : Int) != 1) = false := by rw [h]; rfl
theorem covers_step {f : Int → Int → Bool} {w : Int} {l : List Strip} {i j : Nat} (hy : ∀ y : Nat, y < j → f i y = true → l.countP (lies w i y) = 1) (h : f i j = true → l.countP (lies w i j) = 1) :
    ∀ y : Nat, y < j + 1 → f i y = true → l.countP (lies w i y) = 1 := by
  intro y hyj hc
  by_cases e : y = j
  · subst e; exact h hc
  · exact hy y (by omega) hc
theorem covers_line {f : Int → Int → Bool} {w : Int} {l : List Strip} {i : Nat} (hx : ∀ x y : Nat, x < i → y < 60 → f x y = true → l.countP (lies w x y) = 1) (h : ∀ y : Nat, y < 60 → f i y = true → l.countP (lies w i y) = 1) :
    ∀ x y : Nat, x < i + 1 → y < 60 → f x y = true → l.countP (lies w x y) = 1 := by
  intro x y hxi hy hc
  by_cases e : x = i
  · subst e; exact h y hy hc
  · exact hx x y (by omega) hy hc

set_option maxRecDepth 20000 in
set_option maxHeartbeats 8000000 in
theorem c27 (r : Room) (w : Int) (l : List Strip) (hr : r.rects.length ≤ 1000000000) (hd : r.doors.length ≤ 1000000000) (hl : l.length ≤ 1000000000) : (orcω E X0).call 27 [encRoom r, .int .i64 w, .sl false (l.map encStrip)] =
    some (.tup [.bool (coversV r w l), .int .i64 (dividedE r w 0)]) := by
  refine call_of rfl fn27 rfl ?_
  have k1 := c58 r w 0 hr hd
  rw [dividedV_eq] at k1
  unfold coversV
  by_cases h : dividedE r w 0 = 0
  · rw [if_pos h] at k1 ⊢
    rw [h]
    obtain ⟨h1, h2, h3⟩ := dividedE_zero h
    have k2 := fun s x y hx => c72 s w x y hx h2
    obtain ⟨rs, ds⟩ := r
    dsimp only at k1 ⊢
    generalize cellM rs = f at *
    have yes := covers_yes (f := f) (w := w) (l := l)
    have no := fun x y => covers_no (f := f) (w := w) (l := l) (x := x) (y := y)
    generalize coversM f w l = res at *
    have c1 : ¬ ((60 : Nat) : Int) < 60 := by omega
    unfold encRoom at k1 ⊢
    simp (maxSteps := 1000000) (implicitDefEqProofs := false) only [Try.ntmps27, Try.results27, efc27, fc27, k1, bne_self_eq_false, ss, sd, evOp, evPlain, evVal, evMem, St.get, sliceOf, arrayOf, fieldsOf, normOf, norm, look, evVar, evFieldAddr, nameOf, St.alloc, St.drop, killOb, part, splice, depth, resultsV, ↓reduceIte, Nat.reduceBEq, Nat.reduceAdd, Nat.reduceSub, Nat.reduceMul, Nat.reduceEqDiff, Nat.reduceLeDiff, Nat.reduceLT, effOf, effMem, effVar, effLit, effMake, effApp, lend, evLit, evNil, freeze, evField, evIndexT, orNil, evSlice, placeOf, evMap, mapOf, keyOk, evFrame, closed, fixed, sameEs, wit, Option.isSome_some, St.with, wantedD, Array.size, te, einl, inls, efr]
    generalize hr : loopAt _ _ _ _ _ _ = r; revert r
    refine loop_nat 60 (fun i _ => [(23, .int .i64 (i : Nat))]) (fun _ _ => []) (fun i (_ : Unit) => ∀ x y : Nat, x < i → y < 60 → f x y = true → l.countP (lies w x y) = 1) () (by omega) (by simp (maxSteps := 1000000) (implicitDefEqProofs := false) only [ss, sd, evOp, evPlain, evVal, evMem, St.get, sliceOf, arrayOf, fieldsOf, normOf, norm, look, evVar, evFieldAddr, nameOf, St.alloc, St.drop, killOb, part, splice, depth, resultsV, ↓reduceIte, Nat.reduceBEq, Nat.reduceAdd, Nat.reduceSub, Nat.reduceMul, Nat.reduceEqDiff, Nat.reduceLeDiff, Nat.reduceLT, effOf, effMem, effVar, effLit, effMake, effApp, lend, evLit, evNil, freeze, evField, evIndexT, orNil, evSlice, placeOf, evMap, mapOf, keyOk, evFrame, closed, fixed, sameEs, wit, Option.isSome_some, St.with, wantedD, Array.size, te, einl, inls, efr]) (fun _ _ h => by omega) (fun _ hx => ?_) (fun i _ hx a1 a2 a3 => ?_)
    · have r1 := yes hx
      simp (maxSteps := 1000000) (implicitDefEqProofs := false) only [c1, r1, Try.ntmps27, Try.results27, efc27, fc27, ss, sd, evOp, evPlain, evVal, evMem, St.get, sliceOf, arrayOf, fieldsOf, normOf, norm, look, evVar, evFieldAddr, nameOf, St.alloc, St.drop, killOb, part, splice, depth, resultsV, ↓reduceIte, Nat.reduceBEq, Nat.reduceAdd, Nat.reduceSub, Nat.reduceMul, Nat.reduceEqDiff, Nat.reduceLeDiff, Nat.reduceLT, effOf, effMem, effVar, effLit, effMake, effApp, lend, evLit, evNil, freeze, evField, evIndexT, orNil, evSlice, placeOf, evMap, mapOf, keyOk, evFrame, closed, fixed, sameEs, wit, Option.isSome_some, St.with, wantedD, Array.size, te, einl, inls, efr]
    · have a4 : (i : Int) < 60 := by omega
      simp (maxSteps := 1000000) (implicitDefEqProofs := false) only [a4, a3, ss, sd, evOp, evPlain, evVal, evMem, St.get, sliceOf, arrayOf, fieldsOf, normOf, norm, look, evVar, evFieldAddr, nameOf, St.alloc, St.drop, killOb, part, splice, depth, resultsV, ↓reduceIte, Nat.reduceBEq, Nat.reduceAdd, Nat.reduceSub, Nat.reduceMul, Nat.reduceEqDiff, Nat.reduceLeDiff, Nat.reduceLT, effOf, effMem, effVar, effLit, effMake, effApp, lend, evLit, evNil, freeze, evField, evIndexT, orNil, evSlice, placeOf, evMap, mapOf, keyOk, evFrame, closed, fixed, sameEs, wit, Option.isSome_some, St.with, wantedD, Array.size, te, einl, inls, efr]
      generalize hr : loopAt _ _ _ _ _ _ = r; revert r
      refine loop_nat 60 (fun j _ => [(26, .int .i64 (j : Nat))]) (fun _ _ => []) (fun j (_ : Unit) => ∀ y : Nat, y < j → f i y = true → l.countP (lies w i y) = 1) () (by omega) (by simp (maxSteps := 1000000) (implicitDefEqProofs := false) only [ss, sd, evOp, evPlain, evVal, evMem, St.get, sliceOf, arrayOf, fieldsOf, normOf, norm, look, evVar, evFieldAddr, nameOf, St.alloc, St.drop, killOb, part, splice, depth, resultsV, ↓reduceIte, Nat.reduceBEq, Nat.reduceAdd, Nat.reduceSub, Nat.reduceMul, Nat.reduceEqDiff, Nat.reduceLeDiff, Nat.reduceLT, effOf, effMem, effVar, effLit, effMake, effApp, lend, evLit, evNil, freeze, evField, evIndexT, orNil, evSlice, placeOf, evMap, mapOf, keyOk, evFrame, closed, fixed, sameEs, wit, Option.isSome_some, St.with, wantedD, Array.size, te, einl, inls, efr]) (fun _ h => by omega) (fun _ hy => ?_) (fun j _ hy b1 b2 b3 => ?_)
      · simp (maxSteps := 1000000) (implicitDefEqProofs := false) only [c1, a3, ss, sd, evOp, evPlain, evVal, evMem, St.get, sliceOf, arrayOf, fieldsOf, normOf, norm, look, evVar, evFieldAddr, nameOf, St.alloc, St.drop, killOb, part, splice, depth, resultsV, ↓reduceIte, Nat.reduceBEq, Nat.reduceAdd, Nat.reduceSub, Nat.reduceMul, Nat.reduceEqDiff, Nat.reduceLeDiff, Nat.reduceLT, effOf, effMem, effVar, effLit, effMake, effApp, lend, evLit, evNil, freeze, evField, evIndexT, orNil, evSlice, placeOf, evMap, mapOf, keyOk, evFrame, closed, fixed, sameEs, wit, Option.isSome_some, St.with, wantedD, Array.size, te, einl, inls, efr]
        exact ⟨(), covers_line hx hy⟩
      · have b4 : (j : Int) < 60 := by omega
        have e5 : (gridF f)[i * 60 + j]? = some (.bool (f i j)) := grid_get _ (by omega) (by omega)
        cases hc : f i j with
        | false =>
          rw [hc] at e5
          have nx := covers_step hy (fun hh => by rw [hc] at hh; cases hh)
          simp (maxSteps := 1000000) (implicitDefEqProofs := false) only [b4, ss, sd, evOp, evPlain, evVal, evMem, St.get, sliceOf, arrayOf, fieldsOf, normOf, norm, look, evVar, evFieldAddr, nameOf, St.alloc, St.drop, killOb, part, splice, depth, resultsV, ↓reduceIte, Nat.reduceBEq, Nat.reduceAdd, Nat.reduceSub, Nat.reduceMul, Nat.reduceEqDiff, Nat.reduceLeDiff, Nat.reduceLT, effOf, effMem, effVar, effLit, effMake, effApp, lend, evLit, evNil, freeze, evField, evIndexT, orNil, evSlice, placeOf, evMap, mapOf, keyOk, evFrame, closed, fixed, sameEs, wit, Option.isSome_some, St.with, wantedD, Array.size, te, einl, inls, efr]
          generalize hr : loopAt _ _ _ _ _ _ = r; revert r
          refine loop_inv (ι := Unit) (fun _ => [(12, .int .i64 0), (13, .int .i64 0)]) (fun _ => []) (fun _ => 0) () (by simp (maxSteps := 1000000) (implicitDefEqProofs := false) only [ss, sd, evOp, evPlain, evVal, evMem, St.get, sliceOf, arrayOf, fieldsOf, normOf, norm, look, evVar, evFieldAddr, nameOf, St.alloc, St.drop, killOb, part, splice, depth, resultsV, ↓reduceIte, Nat.reduceBEq, Nat.reduceAdd, Nat.reduceSub, Nat.reduceMul, Nat.reduceEqDiff, Nat.reduceLeDiff, Nat.reduceLT, effOf, effMem, effVar, effLit, effMake, effApp, lend, evLit, evNil, freeze, evField, evIndexT, orNil, evSlice, placeOf, evMap, mapOf, keyOk, evFrame, closed, fixed, sameEs, wit, Option.isSome_some, St.with, wantedD, Array.size, te, einl, inls, efr]) ?_
          intro _
          by_cases h0 : (0 : Int) < l.length
          · simp (maxSteps := 1000000) (implicitDefEqProofs := false) only [h0, a4, b3, b4, e5, List.length_map, Int.natCast_nonneg, Int.toNat_natCast, Nat.mul_one, Int.cast_ofNat_Int, ss, sd, evOp, evPlain, evVal, evMem, St.get, sliceOf, arrayOf, fieldsOf, normOf, norm, look, evVar, evFieldAddr, nameOf, St.alloc, St.drop, killOb, part, splice, depth, resultsV, ↓reduceIte, Nat.reduceBEq, Nat.reduceAdd, Nat.reduceSub, Nat.reduceMul, Nat.reduceEqDiff, Nat.reduceLeDiff, Nat.reduceLT, effOf, effMem, effVar, effLit, effMake, effApp, lend, evLit, evNil, freeze, evField, evIndexT, orNil, evSlice, placeOf, evMap, mapOf, keyOk, evFrame, closed, fixed, sameEs, wit, Option.isSome_some, St.with, wantedD, Array.size, te, einl, inls, efr]
            exact ⟨(), nx⟩
          · simp (maxSteps := 1000000) (implicitDefEqProofs := false) only [h0, a4, b3, b4, e5, List.length_map, Int.natCast_nonneg, Int.toNat_natCast, Nat.mul_one, Int.cast_ofNat_Int, ss, sd, evOp, evPlain, evVal, evMem, St.get, sliceOf, arrayOf, fieldsOf, normOf, norm, look, evVar, evFieldAddr, nameOf, St.alloc, St.drop, killOb, part, splice, depth, resultsV, ↓reduceIte, Nat.reduceBEq, Nat.reduceAdd, Nat.reduceSub, Nat.reduceMul, Nat.reduceEqDiff, Nat.reduceLeDiff, Nat.reduceLT, effOf, effMem, effVar, effLit, effMake, effApp, lend, evLit, evNil, freeze, evField, evIndexT, orNil, evSlice, placeOf, evMap, mapOf, keyOk, evFrame, closed, fixed, sameEs, wit, Option.isSome_some, St.with, wantedD, Array.size, te, einl, inls, efr]
            exact ⟨(), nx⟩
        | true =>
          rw [hc] at e5
          simp (maxSteps := 1000000) (implicitDefEqProofs := false) only [b4, ss, sd, evOp, evPlain, evVal, evMem, St.get, sliceOf, arrayOf, fieldsOf, normOf, norm, look, evVar, evFieldAddr, nameOf, St.alloc, St.drop, killOb, part, splice, depth, resultsV, ↓reduceIte, Nat.reduceBEq, Nat.reduceAdd, Nat.reduceSub, Nat.reduceMul, Nat.reduceEqDiff, Nat.reduceLeDiff, Nat.reduceLT, effOf, effMem, effVar, effLit, effMake, effApp, lend, evLit, evNil, freeze, evField, evIndexT, orNil, evSlice, placeOf, evMap, mapOf, keyOk, evFrame, closed, fixed, sameEs, wit, Option.isSome_some, St.with, wantedD, Array.size, te, einl, inls, efr]
          generalize hr : loopAt _ _ _ _ _ _ = r; revert r
          refine loop_list l (fun pre _ => [(12, .int .i64 (pre.countP (lies w i j) : Nat)), (13, .int .i64 pre.length)]) (fun _ _ => []) (fun _ (_ : Unit) => True) () (by omega) (by simp (maxSteps := 1000000) (implicitDefEqProofs := false) only [List.countP_nil, ss, sd, evOp, evPlain, evVal, evMem, St.get, sliceOf, arrayOf, fieldsOf, normOf, norm, look, evVar, evFieldAddr, nameOf, St.alloc, St.drop, killOb, part, splice, depth, resultsV, ↓reduceIte, Nat.reduceBEq, Nat.reduceAdd, Nat.reduceSub, Nat.reduceMul, Nat.reduceEqDiff, Nat.reduceLeDiff, Nat.reduceLT, effOf, effMem, effVar, effLit, effMake, effApp, lend, evLit, evNil, freeze, evField, evIndexT, orNil, evSlice, placeOf, evMap, mapOf, keyOk, evFrame, closed, fixed, sameEs, wit, Option.isSome_some, St.with, wantedD, Array.size, te, einl, inls, efr]) trivial (fun _ _ => ?_) (fun pre s post _ hp _ g1 g2 g3 g4 => ?_)
          · by_cases hn : l.countP (lies w i j) = 1
            · have hq := eq_one hn
              have nx := covers_step hy (fun _ => hn)
              simp (maxSteps := 1000000) (implicitDefEqProofs := false) only [Int.lt_irrefl, a4, b3, b4, e5, hq, List.length_map, Int.natCast_nonneg, Int.toNat_natCast, Nat.mul_one, Int.cast_ofNat_Int, ss, sd, evOp, evPlain, evVal, evMem, St.get, sliceOf, arrayOf, fieldsOf, normOf, norm, look, evVar, evFieldAddr, nameOf, St.alloc, St.drop, killOb, part, splice, depth, resultsV, ↓reduceIte, Nat.reduceBEq, Nat.reduceAdd, Nat.reduceSub, Nat.reduceMul, Nat.reduceEqDiff, Nat.reduceLeDiff, Nat.reduceLT, effOf, effMem, effVar, effLit, effMake, effApp, lend, evLit, evNil, freeze, evField, evIndexT, orNil, evSlice, placeOf, evMap, mapOf, keyOk, evFrame, closed, fixed, sameEs, wit, Option.isSome_some, St.with, wantedD, Array.size, te, einl, inls, efr]
              exact ⟨(), nx⟩
            · have hq := ne_one hn
              have r1 := no i j (by omega) (by omega) hc hn
              simp (maxSteps := 1000000) (implicitDefEqProofs := false) only [Int.lt_irrefl, a4, b3, b4, e5, hq, r1, List.length_map, Int.natCast_nonneg, Int.toNat_natCast, Nat.mul_one, Int.cast_ofNat_Int, Try.ntmps27, Try.results27, efc27, fc27, ss, sd, evOp, evPlain, evVal, evMem, St.get, sliceOf, arrayOf, fieldsOf, normOf, norm, look, evVar, evFieldAddr, nameOf, St.alloc, St.drop, killOb, part, splice, depth, resultsV, ↓reduceIte, Nat.reduceBEq, Nat.reduceAdd, Nat.reduceSub, Nat.reduceMul, Nat.reduceEqDiff, Nat.reduceLeDiff, Nat.reduceLT, effOf, effMem, effVar, effLit, effMake, effApp, lend, evLit, evNil, freeze, evField, evIndexT, orNil, evSlice, placeOf, evMap, mapOf, keyOk, evFrame, closed, fixed, sameEs, wit, Option.isSome_some, St.with, wantedD, Array.size, te, einl, inls, efr]
          · have k3 := k2 s i j (by omega)
            have hle := List.countP_le_length (p := lies w i j) (l := pre)
            have hlen : pre.length ≤ l.length := by rw [hp]; simp
            have w1 : IntKind.i64.wrap (((pre.countP (lies w i j) : Nat) : Int) + 1) = ((pre.countP (lies w i j) : Nat) : Int) + 1 := wrap_in (by omega)
            cases hs : lies w i j s with
            | false =>
              have e6 : (pre ++ [s]).countP (lies w i j) = pre.countP (lies w i j) := by simp [List.countP_append, List.countP_cons, hs]
              rw [hs] at k3
              unfold encStrip at k3
              simp (maxSteps := 1000000) (implicitDefEqProofs := false) only [g1, g2, g3, g4, a4, b4, e5, e6, k3, encStrip, List.length_map, List.getElem?_map, Int.natCast_nonneg, Int.toNat_natCast, Nat.mul_one, Int.cast_ofNat_Int, ss, sd, evOp, evPlain, evVal, evMem, St.get, sliceOf, arrayOf, fieldsOf, normOf, norm, look, evVar, evFieldAddr, nameOf, St.alloc, St.drop, killOb, part, splice, depth, resultsV, ↓reduceIte, Nat.reduceBEq, Nat.reduceAdd, Nat.reduceSub, Nat.reduceMul, Nat.reduceEqDiff, Nat.reduceLeDiff, Nat.reduceLT, effOf, effMem, effVar, effLit, effMake, effApp, lend, evLit, evNil, freeze, evField, evIndexT, orNil, evSlice, placeOf, evMap, mapOf, keyOk, evFrame, closed, fixed, sameEs, wit, Option.isSome_some, St.with, wantedD, Array.size, te, einl, inls, efr]
              (first | exact ⟨(), trivial⟩ | refine ⟨(), ?_, trivial⟩ | skip)
            | true =>
              have e6 : (((pre ++ [s]).countP (lies w i j) : Nat) : Int) = ((pre.countP (lies w i j) : Nat) : Int) + 1 := by simp [List.countP_append, List.countP_cons, hs]
              rw [hs] at k3
              unfold encStrip at k3
              simp (maxSteps := 1000000) (implicitDefEqProofs := false) only [g1, g2, g3, g4, a4, b4, e5, e6, w1, k3, encStrip, List.length_map, List.getElem?_map, Int.natCast_nonneg, Int.toNat_natCast, Nat.mul_one, Int.cast_ofNat_Int, ss, sd, evOp, evPlain, evVal, evMem, St.get, sliceOf, arrayOf, fieldsOf, normOf, norm, look, evVar, evFieldAddr, nameOf, St.alloc, St.drop, killOb, part, splice, depth, resultsV, ↓reduceIte, Nat.reduceBEq, Nat.reduceAdd, Nat.reduceSub, Nat.reduceMul, Nat.reduceEqDiff, Nat.reduceLeDiff, Nat.reduceLT, effOf, effMem, effVar, effLit, effMake, effApp, lend, evLit, evNil, freeze, evField, evIndexT, orNil, evSlice, placeOf, evMap, mapOf, keyOk, evFrame, closed, fixed, sameEs, wit, Option.isSome_some, St.with, wantedD, Array.size, te, einl, inls, efr]
              (first | exact ⟨(), trivial⟩ | refine ⟨(), ?_, trivial⟩ | skip)
  · rw [if_neg h] at k1 ⊢
    obtain ⟨rs, ds⟩ := r
    have h' : (dividedE ⟨rs, ds⟩ w 0 != 0) = true := by simpa using h
    generalize dividedE ⟨rs, ds⟩ w 0 = e at *
    unfold encRoom at k1 ⊢
    simp (maxSteps := 1000000) (implicitDefEqProofs := false) only [Try.ntmps27, Try.results27, efc27, fc27, k1, h', ss, sd, evOp, evPlain, evVal, evMem, St.get, sliceOf, arrayOf, fieldsOf, normOf, norm, look, evVar, evFieldAddr, nameOf, St.alloc, St.drop, killOb, part, splice, depth, resultsV, ↓reduceIte, Nat.reduceBEq, Nat.reduceAdd, Nat.reduceSub, Nat.reduceMul, Nat.reduceEqDiff, Nat.reduceLeDiff, Nat.reduceLT, effOf, effMem, effVar, effLit, effMake, effApp, lend, evLit, evNil, freeze, evField, evIndexT, orNil, evSlice, placeOf, evMap, mapOf, keyOk, evFrame, closed, fixed, sameEs, wit, Option.isSome_some, St.with, wantedD, Array.size, te, einl, inls, efr]

end Go.AM.D
