/-
Strips and seams (floor and the document).
-/
import Derived.Test.YtejjeckiplihbaaDRooms
import Derived.Test.YtejjeckiplihbaaAmBad
set_option linter.unusedSimpArgs false
set_option maxRecDepth 20000

namespace Go.AM.D
open Go Go.AM Go.Proofs

theorem seg_bounds {o w : Int} (hw : 1 ≤ w ∧ w ≤ 20) (ho : 0 ≤ o ∧ o < w) : -20 ≤ o - w ∧ o - w < 20 := by omega

def dividedV (r : Room) (w o : Int) : V := if roomE r ≠ 0 then .tup [.lit (.pointer none), .int .i64 (roomE r)] else if inB w 1 20 = true ∧ inB o 0 (w - 1) = true then .tup [.fp true (gridF (cellM r.rects)) 0, .int .i64 0] else .tup [.lit (.pointer none), .int .i64 1]
def dividedE (r : Room) (w o : Int) : Int := if roomE r ≠ 0 then roomE r else if inB w 1 20 = true ∧ inB o 0 (w - 1) = true then 0 else 1
theorem dividedE_zero {r : Room} {w o : Int} (h : dividedE r w o = 0) : roomE r = 0 ∧ (1 ≤ w ∧ w ≤ 20) ∧ 0 ≤ o ∧ o < w := by
  unfold dividedE at h
  split at h
  · rename_i h1; exact absurd h h1
  · split at h
    · rename_i h1 h2
      have a := inB_iff.1 h2.1
      have b := inB_iff.1 h2.2
      exact ⟨by omega, by omega, by omega, by omega⟩
    · cases h
theorem dividedV_eq (r : Room) (w o : Int) : dividedV r w o = if dividedE r w o = 0 then .tup [.fp true (gridF (cellM r.rects)) 0, .int .i64 0] else .tup [.lit (.pointer none), .int .i64 (dividedE r w o)] := by
  unfold dividedV dividedE
  by_cases h1 : roomE r ≠ 0
  · rw [if_pos h1, if_pos h1, if_neg h1]
  · rw [if_neg h1, if_neg h1]
    split
    · rfl
    · rfl

set_option maxHeartbeats 4000000 in
theorem c58 (r : Room) (w o : Int) (hr : r.rects.length ≤ 1000000000) (hd : r.doors.length ≤ 1000000000) : (orcω E X0).call 58 [encRoom r, .int .i64 w, .int .i64 o] = some (dividedV r w o) := by
  refine call_of rfl fn58 rfl ?_
  have k1 := c60 r hr hd
  have k2 := fun x lo hi => c63 x lo hi
  unfold dividedV
  rcases roomE_cases r with h | h
  · rw [cellsV_ok h] at k1
    rw [if_neg (by simpa using h)]
    obtain ⟨rs, ds⟩ := r
    unfold encRoom at k1 ⊢
    have e : gridOf rs = gridF (cellM rs) := rfl
    rw [e] at k1
    cases h1 : inB w 1 20 with
    | false => simp (maxSteps := 1000000) (implicitDefEqProofs := false) only [Try.ntmps58, Try.results58, efc58, k1, k2, h1, bne_self_eq_false, Bool.false_eq_true, false_and, if_false, ss, sd, evOp, evPlain, evVal, evMem, St.get, sliceOf, arrayOf, fieldsOf, normOf, norm, look, evVar, evFieldAddr, nameOf, St.alloc, St.drop, killOb, part, splice, depth, resultsV, ↓reduceIte, Nat.reduceBEq, Nat.reduceAdd, Nat.reduceSub, Nat.reduceMul, Nat.reduceEqDiff, Nat.reduceLeDiff, Nat.reduceLT, effOf, effMem, effVar, effLit, effMake, effApp, lend, evLit, evNil, freeze, evField, evIndexT, orNil, evSlice, placeOf, evMap, mapOf, keyOk, evFrame, closed, fixed, sameEs, wit, Option.isSome_some, St.with, wantedD, Array.size, te, einl, inls, efr]
    | true =>
      have b1 := inB_iff.1 h1
      have w1 : IntKind.i64.wrap (w - 1) = w - 1 := wrap_in (by omega)
      cases h2 : inB o 0 (w - 1) with
      | false => simp (maxSteps := 1000000) (implicitDefEqProofs := false) only [Try.ntmps58, Try.results58, efc58, k1, k2, h1, h2, w1, bne_self_eq_false, Bool.false_eq_true, and_false, if_false, ss, sd, evOp, evPlain, evVal, evMem, St.get, sliceOf, arrayOf, fieldsOf, normOf, norm, look, evVar, evFieldAddr, nameOf, St.alloc, St.drop, killOb, part, splice, depth, resultsV, ↓reduceIte, Nat.reduceBEq, Nat.reduceAdd, Nat.reduceSub, Nat.reduceMul, Nat.reduceEqDiff, Nat.reduceLeDiff, Nat.reduceLT, effOf, effMem, effVar, effLit, effMake, effApp, lend, evLit, evNil, freeze, evField, evIndexT, orNil, evSlice, placeOf, evMap, mapOf, keyOk, evFrame, closed, fixed, sameEs, wit, Option.isSome_some, St.with, wantedD, Array.size, te, einl, inls, efr]
      | true => simp (maxSteps := 1000000) (implicitDefEqProofs := false) only [Try.ntmps58, Try.results58, efc58, k1, k2, h1, h2, w1, bne_self_eq_false, and_self, if_true, ss, sd, evOp, evPlain, evVal, evMem, St.get, sliceOf, arrayOf, fieldsOf, normOf, norm, look, evVar, evFieldAddr, nameOf, St.alloc, St.drop, killOb, part, splice, depth, resultsV, ↓reduceIte, Nat.reduceBEq, Nat.reduceAdd, Nat.reduceSub, Nat.reduceMul, Nat.reduceEqDiff, Nat.reduceLeDiff, Nat.reduceLT, effOf, effMem, effVar, effLit, effMake, effApp, lend, evLit, evNil, freeze, evField, evIndexT, orNil, evSlice, placeOf, evMap, mapOf, keyOk, evFrame, closed, fixed, sameEs, wit, Option.isSome_some, St.with, wantedD, Array.size, te, einl, inls, efr]
  · rw [cellsV_err rfl h] at k1
    rw [if_pos h]
    obtain ⟨rs, ds⟩ := r
    have h' : (roomE ⟨rs, ds⟩ != 0) = true := by simpa using h
    generalize roomE ⟨rs, ds⟩ = e at *
    unfold encRoom at k1 ⊢
    simp (maxSteps := 1000000) (implicitDefEqProofs := false) only [Try.ntmps58, Try.results58, efc58, k1, h', ss, sd, evOp, evPlain, evVal, evMem, St.get, sliceOf, arrayOf, fieldsOf, normOf, norm, look, evVar, evFieldAddr, nameOf, St.alloc, St.drop, killOb, part, splice, depth, resultsV, ↓reduceIte, Nat.reduceBEq, Nat.reduceAdd, Nat.reduceSub, Nat.reduceMul, Nat.reduceEqDiff, Nat.reduceLeDiff, Nat.reduceLT, effOf, effMem, effVar, effLit, effMake, effApp, lend, evLit, evNil, freeze, evField, evIndexT, orNil, evSlice, placeOf, evMap, mapOf, keyOk, evFrame, closed, fixed, sameEs, wit, Option.isSome_some, St.with, wantedD, Array.size, te, einl, inls, efr]

set_option maxHeartbeats 4000000 in
theorem c73 (r : Room) (w o : Int) (hr : r.rects.length ≤ 1000000000) (hd : r.doors.length ≤ 1000000000) : (orcω E X0).call 73 [encRoom r, .int .i64 w, .int .i64 o] = some (.int .i64 (dividedE r w o)) := by
  refine call_of rfl fn73 rfl ?_
  have k1 := c26 r hr hd
  have k2 := fun x lo hi => c65 x lo hi
  unfold dividedE
  rcases roomE_cases r with h | h
  · rw [if_neg (by simpa using h)]
    rw [h] at k1
    obtain ⟨rs, ds⟩ := r
    unfold encRoom at k1 ⊢
    cases h1 : inB w 1 20 with
    | false => simp (maxSteps := 1000000) (implicitDefEqProofs := false) only [Try.ntmps73, Try.results73, efc73, k1, k2, h1, bne_self_eq_false, Bool.false_eq_true, false_and, if_false, ss, sd, evOp, evPlain, evVal, evMem, St.get, sliceOf, arrayOf, fieldsOf, normOf, norm, look, evVar, evFieldAddr, nameOf, St.alloc, St.drop, killOb, part, splice, depth, resultsV, ↓reduceIte, Nat.reduceBEq, Nat.reduceAdd, Nat.reduceSub, Nat.reduceMul, Nat.reduceEqDiff, Nat.reduceLeDiff, Nat.reduceLT, effOf, effMem, effVar, effLit, effMake, effApp, lend, evLit, evNil, freeze, evField, evIndexT, orNil, evSlice, placeOf, evMap, mapOf, keyOk, evFrame, closed, fixed, sameEs, wit, Option.isSome_some, St.with, wantedD, Array.size, te, einl, inls, efr]
    | true =>
      have b1 := inB_iff.1 h1
      by_cases h2 : o < 0
      · have h3 : inB o 0 (w - 1) = false := by rw [Bool.eq_false_iff]; intro hh; have := inB_iff.1 hh; omega
        simp (maxSteps := 1000000) (implicitDefEqProofs := false) only [Try.ntmps73, Try.results73, efc73, k1, k2, h1, h2, h3, bne_self_eq_false, Bool.false_eq_true, and_false, if_false, ss, sd, evOp, evPlain, evVal, evMem, St.get, sliceOf, arrayOf, fieldsOf, normOf, norm, look, evVar, evFieldAddr, nameOf, St.alloc, St.drop, killOb, part, splice, depth, resultsV, ↓reduceIte, Nat.reduceBEq, Nat.reduceAdd, Nat.reduceSub, Nat.reduceMul, Nat.reduceEqDiff, Nat.reduceLeDiff, Nat.reduceLT, effOf, effMem, effVar, effLit, effMake, effApp, lend, evLit, evNil, freeze, evField, evIndexT, orNil, evSlice, placeOf, evMap, mapOf, keyOk, evFrame, closed, fixed, sameEs, wit, Option.isSome_some, St.with, wantedD, Array.size, te, einl, inls, efr]
      by_cases h4 : w ≤ o
      · have h3 : inB o 0 (w - 1) = false := by rw [Bool.eq_false_iff]; intro hh; have := inB_iff.1 hh; omega
        simp (maxSteps := 1000000) (implicitDefEqProofs := false) only [Try.ntmps73, Try.results73, efc73, k1, k2, h1, h2, h3, h4, bne_self_eq_false, Bool.false_eq_true, and_false, if_false, ss, sd, evOp, evPlain, evVal, evMem, St.get, sliceOf, arrayOf, fieldsOf, normOf, norm, look, evVar, evFieldAddr, nameOf, St.alloc, St.drop, killOb, part, splice, depth, resultsV, ↓reduceIte, Nat.reduceBEq, Nat.reduceAdd, Nat.reduceSub, Nat.reduceMul, Nat.reduceEqDiff, Nat.reduceLeDiff, Nat.reduceLT, effOf, effMem, effVar, effLit, effMake, effApp, lend, evLit, evNil, freeze, evField, evIndexT, orNil, evSlice, placeOf, evMap, mapOf, keyOk, evFrame, closed, fixed, sameEs, wit, Option.isSome_some, St.with, wantedD, Array.size, te, einl, inls, efr]
      · have h3 : inB o 0 (w - 1) = true := inB_iff.2 (by omega)
        simp (maxSteps := 1000000) (implicitDefEqProofs := false) only [Try.ntmps73, Try.results73, efc73, k1, k2, h1, h2, h3, h4, bne_self_eq_false, and_self, if_true, ss, sd, evOp, evPlain, evVal, evMem, St.get, sliceOf, arrayOf, fieldsOf, normOf, norm, look, evVar, evFieldAddr, nameOf, St.alloc, St.drop, killOb, part, splice, depth, resultsV, ↓reduceIte, Nat.reduceBEq, Nat.reduceAdd, Nat.reduceSub, Nat.reduceMul, Nat.reduceEqDiff, Nat.reduceLeDiff, Nat.reduceLT, effOf, effMem, effVar, effLit, effMake, effApp, lend, evLit, evNil, freeze, evField, evIndexT, orNil, evSlice, placeOf, evMap, mapOf, keyOk, evFrame, closed, fixed, sameEs, wit, Option.isSome_some, St.with, wantedD, Array.size, te, einl, inls, efr]
  · rw [if_pos h]
    obtain ⟨rs, ds⟩ := r
    have h' : (roomE ⟨rs, ds⟩ != 0) = true := by simpa using h
    generalize roomE ⟨rs, ds⟩ = e at *
    unfold encRoom at k1 ⊢
    simp (maxSteps := 1000000) (implicitDefEqProofs := false) only [Try.ntmps73, Try.results73, efc73, k1, h', ss, sd, evOp, evPlain, evVal, evMem, St.get, sliceOf, arrayOf, fieldsOf, normOf, norm, look, evVar, evFieldAddr, nameOf, St.alloc, St.drop, killOb, part, splice, depth, resultsV, ↓reduceIte, Nat.reduceBEq, Nat.reduceAdd, Nat.reduceSub, Nat.reduceMul, Nat.reduceEqDiff, Nat.reduceLeDiff, Nat.reduceLT, effOf, effMem, effVar, effLit, effMake, effApp, lend, evLit, evNil, freeze, evField, evIndexT, orNil, evSlice, placeOf, evMap, mapOf, keyOk, evFrame, closed, fixed, sameEs, wit, Option.isSome_some, St.with, wantedD, Array.size, te, einl, inls, efr]

theorem rowHas_no {f : Int → Int → Bool} {x w : Int} {y : Nat} (h : ∀ k : Nat, (k : Int) < w → f (x + k) y = false) : rowHas f x w y = false := by
  rw [Bool.eq_false_iff]
  intro hh
  obtain ⟨c, h1, h2, h3⟩ := rowHas_iff.1 hh
  have := h (c - x).toNat (by omega)
  rw [show x + (((c - x).toNat : Nat) : Int) = c by omega, h3] at this
  cases this
theorem rowHas_yes {f : Int → Int → Bool} {x w : Int} {y k : Nat} (hk : (k : Int) < w) (h : f (x + k) y = true) : rowHas f x w y = true :=
  rowHas_iff.2 ⟨x + k, by omega, by omega, h⟩
theorem scan_no {p : Nat → Bool} {n : Nat} (h : p n = false) : scan p (n + 1) = scan p n := by
  show (if p n = true then _ else _) = _
  rw [if_neg (by rw [h]; decide)]
theorem scan_yes {p : Nat → Bool} {n : Nat} (h : p n = true) : scan p (n + 1) = (if (scan p n).2 = 0 then (n : Int) else (scan p n).1, ((n + 1 : Nat) : Int)) := by
  show (if p n = true then _ else _) = _
  rw [if_pos h]
  rfl

def stripOb (x a b : Int) : Ob := { es := 3, flat := true, t := true, app := false, elems := [.agg [.int .i64 x, .int .i64 a, .int .i64 b]] }
theorem inf108 : (drawn (Try.f108.body.getD .skip)).map infosOf = [[([], false), ([], false), ([], false), ([], false), ([2], false), ([], true)]] := by decide +kernel
theorem okD108 : (drawn (Try.f108.body.getD .skip)).all okBad = true := by decide +kernel

set_option maxRecDepth 20000 in
set_option maxHeartbeats 8000000 in
theorem c108 {f : Int → Int → Bool} (hf : Inside f) (x w : Int) (hx : -20 ≤ x ∧ x < 60) (hw : 1 ≤ w ∧ w ≤ 20) : (orcω E X0).call 108 [.fp false (gridF f) 0, .int .i64 x, .int .i64 w] =
    some (.tup [encStrip (stripM f x w), .bool (decide (0 < (stripM f x w).b))]) := by
  refine call_of rfl fn108 rfl ?_
  have hi := inf108
  have ho := okD108
  simp only [Try.f108, Option.getD_some, drawn, List.map_cons, List.map_nil, List.nil_append, List.append_nil, List.cons_append, List.cons.injEq, and_true] at hi
  simp only [Try.f108, Option.getD_some, drawn, List.nil_append, List.append_nil, List.cons_append, List.all_cons, List.all_nil, Bool.and_true, Bool.and_eq_true] at ho
  have k1 := fun x y => k70 hf x y
  have w0 : IntKind.i64.wrap (x + w) = x + w := wrap_in (by omega)
  simp (maxSteps := 1000000) (implicitDefEqProofs := false) only [Try.ntmps108, Try.results108, efc108, fc108, ss, sd, evOp, evPlain, evVal, evMem, St.get, sliceOf, arrayOf, fieldsOf, normOf, norm, look, evVar, evFieldAddr, nameOf, St.alloc, St.drop, killOb, part, splice, depth, resultsV, ↓reduceIte, Nat.reduceBEq, Nat.reduceAdd, Nat.reduceSub, Nat.reduceMul, Nat.reduceEqDiff, Nat.reduceLeDiff, Nat.reduceLT, effOf, effMem, effVar, effLit, effMake, effApp, lend, evLit, evNil, freeze, evField, evIndexT, orNil, evSlice, placeOf, evMap, mapOf, keyOk, evFrame, closed, fixed, sameEs, wit, Option.isSome_some, St.with, wantedD, Array.size, te, einl, inls, efr]
  generalize hr : loopAt _ _ _ _ _ _ = r; revert r
  refine loop_nat 60 (fun i _ => [(13, .int .i64 (i : Nat))]) (fun i _ => [(8, stripOb x (scan (rowHas f x w) i).1 (scan (rowHas f x w) i).2)]) (fun _ (_ : Unit) => True) () (by omega) (by simp (maxSteps := 1000000) (implicitDefEqProofs := false) only [stripOb, scan, ss, sd, evOp, evPlain, evVal, evMem, St.get, sliceOf, arrayOf, fieldsOf, normOf, norm, look, evVar, evFieldAddr, nameOf, St.alloc, St.drop, killOb, part, splice, depth, resultsV, ↓reduceIte, Nat.reduceBEq, Nat.reduceAdd, Nat.reduceSub, Nat.reduceMul, Nat.reduceEqDiff, Nat.reduceLeDiff, Nat.reduceLT, effOf, effMem, effVar, effLit, effMake, effApp, lend, evLit, evNil, freeze, evField, evIndexT, orNil, evSlice, placeOf, evMap, mapOf, keyOk, evFrame, closed, fixed, sameEs, wit, Option.isSome_some, St.with, wantedD, Array.size, te, einl, inls, efr]) trivial (fun _ _ => ?_) (fun i _ _ a1 a2 a3 => ?_)
  · have c1 : ¬ ((60 : Nat) : Int) < 60 := by omega
    simp (maxSteps := 1000000) (implicitDefEqProofs := false) only [c1, stripOb, stripM, encStrip, regT ho hi, evBT_nil, evBT_cons, effT_true, effT_false, effT2_some, effT2_none, calmT, free, Eff.writes, supp, isBar, Option.toList_some, Option.toList_none, Try.ntmps108, Try.results108, efc108, fc108, ss, sd, evOp, evPlain, evVal, evMem, St.get, sliceOf, arrayOf, fieldsOf, normOf, norm, look, evVar, evFieldAddr, nameOf, St.alloc, St.drop, killOb, part, splice, depth, resultsV, ↓reduceIte, Nat.reduceBEq, Nat.reduceAdd, Nat.reduceSub, Nat.reduceMul, Nat.reduceEqDiff, Nat.reduceLeDiff, Nat.reduceLT, effOf, effMem, effVar, effLit, effMake, effApp, lend, evLit, evNil, freeze, evField, evIndexT, orNil, evSlice, placeOf, evMap, mapOf, keyOk, evFrame, closed, fixed, sameEs, wit, Option.isSome_some, St.with, wantedD, Array.size, te, einl, inls, efr]
    exact rfl
  · have a4 : (i : Int) < 60 := by omega
    have sin := scan_in (rowHas f x w) i
    simp (maxSteps := 1000000) (implicitDefEqProofs := false) only [a4, stripOb, ss, sd, evOp, evPlain, evVal, evMem, St.get, sliceOf, arrayOf, fieldsOf, normOf, norm, look, evVar, evFieldAddr, nameOf, St.alloc, St.drop, killOb, part, splice, depth, resultsV, ↓reduceIte, Nat.reduceBEq, Nat.reduceAdd, Nat.reduceSub, Nat.reduceMul, Nat.reduceEqDiff, Nat.reduceLeDiff, Nat.reduceLT, effOf, effMem, effVar, effLit, effMake, effApp, lend, evLit, evNil, freeze, evField, evIndexT, orNil, evSlice, placeOf, evMap, mapOf, keyOk, evFrame, closed, fixed, sameEs, wit, Option.isSome_some, St.with, wantedD, Array.size, te, einl, inls, efr]
    generalize hr : loopAt _ _ _ _ _ _ = r; revert r
    refine loop_nat w.toNat (fun k _ => [(10, .int .i64 (x + (k : Int)))]) (fun _ _ => []) (fun k (_ : Unit) => ∀ j : Nat, j < k → f (x + j) i = false) () (by omega) (by simp (maxSteps := 1000000) (implicitDefEqProofs := false) only [Int.natCast_zero, Int.add_zero, ss, sd, evOp, evPlain, evVal, evMem, St.get, sliceOf, arrayOf, fieldsOf, normOf, norm, look, evVar, evFieldAddr, nameOf, St.alloc, St.drop, killOb, part, splice, depth, resultsV, ↓reduceIte, Nat.reduceBEq, Nat.reduceAdd, Nat.reduceSub, Nat.reduceMul, Nat.reduceEqDiff, Nat.reduceLeDiff, Nat.reduceLT, effOf, effMem, effVar, effLit, effMake, effApp, lend, evLit, evNil, freeze, evField, evIndexT, orNil, evSlice, placeOf, evMap, mapOf, keyOk, evFrame, closed, fixed, sameEs, wit, Option.isSome_some, St.with, wantedD, Array.size, te, einl, inls, efr]) (fun j hj => by omega) (fun _ hk => ?_) (fun k _ hk b1 b2 _ => ?_)
    · have c1 : ¬ x + ((w.toNat : Nat) : Int) < x + w := by omega
      have e1 := scan_no (rowHas_no (f := f) (x := x) (w := w) (y := i) fun k hk' => hk k (by omega))
      simp (maxSteps := 1000000) (implicitDefEqProofs := false) only [c1, w0, a3, e1, ss, sd, evOp, evPlain, evVal, evMem, St.get, sliceOf, arrayOf, fieldsOf, normOf, norm, look, evVar, evFieldAddr, nameOf, St.alloc, St.drop, killOb, part, splice, depth, resultsV, ↓reduceIte, Nat.reduceBEq, Nat.reduceAdd, Nat.reduceSub, Nat.reduceMul, Nat.reduceEqDiff, Nat.reduceLeDiff, Nat.reduceLT, effOf, effMem, effVar, effLit, effMake, effApp, lend, evLit, evNil, freeze, evField, evIndexT, orNil, evSlice, placeOf, evMap, mapOf, keyOk, evFrame, closed, fixed, sameEs, wit, Option.isSome_some, St.with, wantedD, Array.size, te, einl, inls, efr]
      (first | exact ⟨(), trivial⟩ | refine ⟨(), ?_, trivial⟩ | skip)
    · have c1 : x + (k : Int) < x + w := by omega
      have w1 : IntKind.i64.wrap (x + (k : Int) + 1) = x + ((k + 1 : Nat) : Int) := by rw [wrap_in (by omega)]; omega
      have k2 := k1 (x + (k : Int)) i
      cases hc : f (x + (k : Int)) i with
      | false =>
        rw [hc] at k2
        simp (maxSteps := 1000000) (implicitDefEqProofs := false) only [c1, w0, w1, k2, ss, sd, evOp, evPlain, evVal, evMem, St.get, sliceOf, arrayOf, fieldsOf, normOf, norm, look, evVar, evFieldAddr, nameOf, St.alloc, St.drop, killOb, part, splice, depth, resultsV, ↓reduceIte, Nat.reduceBEq, Nat.reduceAdd, Nat.reduceSub, Nat.reduceMul, Nat.reduceEqDiff, Nat.reduceLeDiff, Nat.reduceLT, effOf, effMem, effVar, effLit, effMake, effApp, lend, evLit, evNil, freeze, evField, evIndexT, orNil, evSlice, placeOf, evMap, mapOf, keyOk, evFrame, closed, fixed, sameEs, wit, Option.isSome_some, St.with, wantedD, Array.size, te, einl, inls, efr]
        exact ⟨(), fun j hj => by
          by_cases h : j = k
          · subst h; exact hc
          · exact hk j (by omega)⟩
      | true =>
        rw [hc] at k2
        have e1 := scan_yes (rowHas_yes (f := f) (x := x) (w := w) (y := i) (k := k) (by omega) hc)
        by_cases hz : (scan (rowHas f x w) i).2 = 0
        · rw [if_pos hz] at e1
          have hz' : ((scan (rowHas f x w) i).2 == 0) = true := by simpa using hz
          simp (maxSteps := 1000000) (implicitDefEqProofs := false) only [c1, w0, k2, hz', a3, e1, ss, sd, evOp, evPlain, evVal, evMem, St.get, sliceOf, arrayOf, fieldsOf, normOf, norm, look, evVar, evFieldAddr, nameOf, St.alloc, St.drop, killOb, part, splice, depth, resultsV, ↓reduceIte, Nat.reduceBEq, Nat.reduceAdd, Nat.reduceSub, Nat.reduceMul, Nat.reduceEqDiff, Nat.reduceLeDiff, Nat.reduceLT, effOf, effMem, effVar, effLit, effMake, effApp, lend, evLit, evNil, freeze, evField, evIndexT, orNil, evSlice, placeOf, evMap, mapOf, keyOk, evFrame, closed, fixed, sameEs, wit, Option.isSome_some, St.with, wantedD, Array.size, te, einl, inls, efr]
          (first | exact ⟨(), trivial⟩ | refine ⟨(), ?_, trivial⟩ | skip)
        · rw [if_neg hz] at e1
          have hz' : ((scan (rowHas f x w) i).2 == 0) = false := by simpa using hz
          simp (maxSteps := 1000000) (implicitDefEqProofs := false) only [c1, w0, k2, hz', a3, e1, ss, sd, evOp, evPlain, evVal, evMem, St.get, sliceOf, arrayOf, fieldsOf, normOf, norm, look, evVar, evFieldAddr, nameOf, St.alloc, St.drop, killOb, part, splice, depth, resultsV, ↓reduceIte, Nat.reduceBEq, Nat.reduceAdd, Nat.reduceSub, Nat.reduceMul, Nat.reduceEqDiff, Nat.reduceLeDiff, Nat.reduceLT, effOf, effMem, effVar, effLit, effMake, effApp, lend, evLit, evNil, freeze, evField, evIndexT, orNil, evSlice, placeOf, evMap, mapOf, keyOk, evFrame, closed, fixed, sameEs, wit, Option.isSome_some, St.with, wantedD, Array.size, te, einl, inls, efr]
          (first | exact ⟨(), trivial⟩ | refine ⟨(), ?_, trivial⟩ | skip)
end Go.AM.D
