/-
All strips and seams of a room.
-/
import Derived.Test.YtejjeckiplihbaaDStrips
set_option linter.unusedSimpArgs false
set_option maxRecDepth 20000

namespace Go.AM.D
open Go Go.AM Go.Proofs

theorem strF_stop {f : Int → Int → Bool} {w x : Int} (h : 60 ≤ x) : ∀ n, strF f w n x = []
  | 0 => rfl
  | n + 1 => by unfold strF; rw [if_neg (by omega)]
theorem strF_go {f : Int → Int → Bool} {w x : Int} (h : x < 60) (n : Nat) : strF f w (n + 1) x = if 0 < (stripM f x w).b then stripM f x w :: strF f w n (x + w) else strF f w n (x + w) := by
  show (if x < 60 then _ else _) = _
  rw [if_pos h]
theorem sized_strips (l : List Strip) : sized 3 (l.map encStrip) = true := sized_map (f := encStrip) (n := 3) (fun _ => ⟨_, rfl, rfl⟩) l
theorem free_strips (l : List Strip) : refFreeL (l.map encStrip) = true := refFreeL_map (fun _ => rfl) l
theorem new_strips (l : List Strip) : isNewL (l.map encStrip) = true := isNewL_map (fun _ => rfl) l
def outOb (l : List Strip) : Ob := { es := 3, flat := true, t := true, app := true, elems := l.map encStrip }

set_option maxRecDepth 20000 in
set_option maxHeartbeats 8000000 in
theorem c59 {f : Int → Int → Bool} (hf : Inside f) (w o : Int) (hw : 1 ≤ w ∧ w ≤ 20) (ho : 0 ≤ o ∧ o < w) : (orcω E X0).call 59 [.fp false (gridF f) 0, .int .i64 w, .int .i64 o] =
    some (.sl true ((stripsM f w o).map encStrip)) := by
  refine call_of rfl fn59 rfl ?_
  have w0 : IntKind.i64.wrap (o - w) = o - w := wrap_in (by omega)
  simp (maxSteps := 1000000) (implicitDefEqProofs := false) only [Try.ntmps59, Try.results59, efc59, fc59, w0, ss, sd, evOp, evPlain, evVal, evMem, St.get, sliceOf, arrayOf, fieldsOf, normOf, norm, look, evVar, evFieldAddr, nameOf, St.alloc, St.drop, killOb, part, splice, depth, resultsV, ↓reduceIte, Nat.reduceBEq, Nat.reduceAdd, Nat.reduceSub, Nat.reduceMul, Nat.reduceEqDiff, Nat.reduceLeDiff, Nat.reduceLT, effOf, effMem, effVar, effLit, effMake, effApp, lend, evLit, evNil, freeze, evField, evIndexT, orNil, evSlice, placeOf, evMap, mapOf, keyOk, evFrame, closed, fixed, sameEs, wit, Option.isSome_some, St.with, wantedD, Array.size, te, einl, inls, efr]
  generalize hr : loopAt _ _ _ _ _ _ = r; revert r
  refine loop_inv (ι := { p : Nat × Int × List Strip // p.2.2 ++ strF f w p.1 p.2.1 = stripsM f w o ∧ -20 ≤ p.2.1 ∧ p.2.1 < 100 ∧ 60 ≤ p.2.1 + p.1 ∧ p.2.2.length + p.1 ≤ 82 })
    (fun i => [(7, .own 7 0 i.1.2.2.length), (8, .int .i64 i.1.2.1)]) (fun i => [(7, outOb i.1.2.2)]) (fun i => i.1.1) ⟨(82, o - w, []), rfl, by dsimp only; omega, by dsimp only; omega, by dsimp only; omega, by dsimp only; simp⟩ (by simp (maxSteps := 1000000) (implicitDefEqProofs := false) only [outOb, ss, sd, evOp, evPlain, evVal, evMem, St.get, sliceOf, arrayOf, fieldsOf, normOf, norm, look, evVar, evFieldAddr, nameOf, St.alloc, St.drop, killOb, part, splice, depth, resultsV, ↓reduceIte, Nat.reduceBEq, Nat.reduceAdd, Nat.reduceSub, Nat.reduceMul, Nat.reduceEqDiff, Nat.reduceLeDiff, Nat.reduceLT, effOf, effMem, effVar, effLit, effMake, effApp, lend, evLit, evNil, freeze, evField, evIndexT, orNil, evSlice, placeOf, evMap, mapOf, keyOk, evFrame, closed, fixed, sameEs, wit, Option.isSome_some, St.with, wantedD, Array.size, te, einl, inls, efr]) ?_
  rintro ⟨⟨n, x, out⟩, h1, h2, h3, h4, h5⟩
  dsimp only at h1 h2 h3 h4 h5 ⊢
  by_cases hx : x < 60
  · obtain ⟨k, rfl⟩ : ∃ k, n = k + 1 := ⟨n - 1, by omega⟩
    have k1 := c108 hf x w ⟨h2, hx⟩ hw
    have w1 : IntKind.i64.wrap (x + w) = x + w := wrap_in (by omega)
    rw [strF_go hx] at h1
    by_cases hb : 0 < (stripM f x w).b
    · rw [if_pos hb] at h1
      rw [decide_eq_true hb] at k1
      have hroom : roomy (out.length + 1) 24 = true := by simp [roomy]; omega
      have hbig : out.length + 1 ≤ 4294967296 := by omega
      have e1 : out.map encStrip ++ [.agg [.int .i64 (stripM f x w).x, .int .i64 (stripM f x w).a, .int .i64 (stripM f x w).b]] = (out ++ [stripM f x w]).map encStrip := by simp [encStrip]
      have e2 : out.length + 1 = (out ++ [stripM f x w]).length := by simp
      unfold encStrip at k1
      generalize stripM f x w = s at *
      simp (maxSteps := 1000000) (implicitDefEqProofs := false) only [hx, w1, k1, hroom, hbig, e1, outOb, ss, sd, evOp, evPlain, evVal, evMem, St.get, sliceOf, arrayOf, fieldsOf, normOf, norm, look, evVar, evFieldAddr, nameOf, St.alloc, St.drop, killOb, part, splice, depth, resultsV, ↓reduceIte, Nat.reduceBEq, Nat.reduceAdd, Nat.reduceSub, Nat.reduceMul, Nat.reduceEqDiff, Nat.reduceLeDiff, Nat.reduceLT, effOf, effMem, effVar, effLit, effMake, effApp, lend, evLit, evNil, freeze, evField, evIndexT, orNil, evSlice, placeOf, evMap, mapOf, keyOk, evFrame, closed, fixed, sameEs, wit, Option.isSome_some, St.with, wantedD, Array.size, te, einl, inls, efr]
      refine ⟨⟨(k, x + w, out ++ [s]), by simpa using h1, by dsimp only; omega, by dsimp only; omega, by dsimp only; omega, by dsimp only; simp; omega⟩, ?_, by dsimp only; omega⟩
      dsimp only
      rw [e2]
    · rw [if_neg hb] at h1
      rw [decide_eq_false hb] at k1
      unfold encStrip at k1
      generalize stripM f x w = s at *
      simp (maxSteps := 1000000) (implicitDefEqProofs := false) only [hx, w1, k1, outOb, ss, sd, evOp, evPlain, evVal, evMem, St.get, sliceOf, arrayOf, fieldsOf, normOf, norm, look, evVar, evFieldAddr, nameOf, St.alloc, St.drop, killOb, part, splice, depth, resultsV, ↓reduceIte, Nat.reduceBEq, Nat.reduceAdd, Nat.reduceSub, Nat.reduceMul, Nat.reduceEqDiff, Nat.reduceLeDiff, Nat.reduceLT, effOf, effMem, effVar, effLit, effMake, effApp, lend, evLit, evNil, freeze, evField, evIndexT, orNil, evSlice, placeOf, evMap, mapOf, keyOk, evFrame, closed, fixed, sameEs, wit, Option.isSome_some, St.with, wantedD, Array.size, te, einl, inls, efr]
      exact ⟨⟨(k, x + w, out), h1, by dsimp only; omega, by dsimp only; omega, by dsimp only; omega, by dsimp only; omega⟩, rfl, by dsimp only; omega⟩
  · rw [strF_stop (by omega), List.append_nil] at h1
    subst h1
    simp (maxSteps := 1000000) (implicitDefEqProofs := false) only [hx, outOb, Try.ntmps59, Try.results59, efc59, fc59, take_map_length, ss, sd, evOp, evPlain, evVal, evMem, St.get, sliceOf, arrayOf, fieldsOf, normOf, norm, look, evVar, evFieldAddr, nameOf, St.alloc, St.drop, killOb, part, splice, depth, resultsV, ↓reduceIte, Nat.reduceBEq, Nat.reduceAdd, Nat.reduceSub, Nat.reduceMul, Nat.reduceEqDiff, Nat.reduceLeDiff, Nat.reduceLT, effOf, effMem, effVar, effLit, effMake, effApp, lend, evLit, evNil, freeze, evField, evIndexT, orNil, evSlice, placeOf, evMap, mapOf, keyOk, evFrame, closed, fixed, sameEs, wit, Option.isSome_some, St.with, wantedD, Array.size, te, einl, inls, efr]

/-- What the document has of a strip at a height. -/
def refScan (p : Nat → Bool) (n : Nat) : Int × Int := if (scan p n).2 = 0 then (-1, 0) else scan p n
def refVal (p : Nat → Bool) (n : Nat) : Bool → Int × Int
  | true => (if (scan p n).2 = 0 then (n : Int) else (scan p n).1, ((n + 1 : Nat) : Int))
  | false => refScan p n
theorem refScan_next {p : Nat → Bool} {n : Nat} : refScan p (n + 1) = refVal p n (p n) := by
  have h := scan_in p n
  cases hp : p n with
  | true =>
    unfold refScan refVal
    rw [scan_yes hp, if_neg (by dsimp only; omega)]
  | false =>
    unfold refScan refVal refScan
    rw [scan_no hp]

set_option maxRecDepth 20000 in
set_option maxHeartbeats 8000000 in
theorem c75 (r : Room) (hr : ∀ a ∈ r.rects, rectOk a = true) (hn : r.rects.length ≤ 1000000000) (w o : Int) (hw : 1 ≤ w ∧ w ≤ 20) (ho : 0 ≤ o ∧ o < w) : (orcω E X0).call 75 [encRoom r, .int .i64 w, .int .i64 o] =
    some (.sl true ((stripsM (cellM r.rects) w o).map encStrip)) := by
  refine call_of rfl fn75 rfl ?_
  have k1 := fun x y => c69 r x y hr hn
  obtain ⟨rs, ds⟩ := r
  dsimp only at k1 ⊢
  generalize cellM rs = f at *
  have w0 : IntKind.i64.wrap (o - w) = o - w := wrap_in (by omega)
  unfold encRoom at k1 ⊢
  simp (maxSteps := 1000000) (implicitDefEqProofs := false) only [Try.ntmps75, Try.results75, efc75, fc75, w0, ss, sd, evOp, evPlain, evVal, evMem, St.get, sliceOf, arrayOf, fieldsOf, normOf, norm, look, evVar, evFieldAddr, nameOf, St.alloc, St.drop, killOb, part, splice, depth, resultsV, ↓reduceIte, Nat.reduceBEq, Nat.reduceAdd, Nat.reduceSub, Nat.reduceMul, Nat.reduceEqDiff, Nat.reduceLeDiff, Nat.reduceLT, effOf, effMem, effVar, effLit, effMake, effApp, lend, evLit, evNil, freeze, evField, evIndexT, orNil, evSlice, placeOf, evMap, mapOf, keyOk, evFrame, closed, fixed, sameEs, wit, Option.isSome_some, St.with, wantedD, Array.size, te, einl, inls, efr]
  generalize hr : loopAt _ _ _ _ _ _ = r; revert r
  refine loop_inv (ι := { p : Nat × Int × List Strip // p.2.2 ++ strF f w p.1 p.2.1 = stripsM f w o ∧ -20 ≤ p.2.1 ∧ p.2.1 < 100 ∧ 60 ≤ p.2.1 + p.1 ∧ p.2.2.length + p.1 ≤ 82 })
    (fun i => [(7, .own 7 0 i.1.2.2.length), (8, .int .i64 i.1.2.1)]) (fun i => [(7, outOb i.1.2.2)]) (fun i => i.1.1) ⟨(82, o - w, []), rfl, by dsimp only; omega, by dsimp only; omega, by dsimp only; omega, by dsimp only; simp⟩ (by simp (maxSteps := 1000000) (implicitDefEqProofs := false) only [outOb, ss, sd, evOp, evPlain, evVal, evMem, St.get, sliceOf, arrayOf, fieldsOf, normOf, norm, look, evVar, evFieldAddr, nameOf, St.alloc, St.drop, killOb, part, splice, depth, resultsV, ↓reduceIte, Nat.reduceBEq, Nat.reduceAdd, Nat.reduceSub, Nat.reduceMul, Nat.reduceEqDiff, Nat.reduceLeDiff, Nat.reduceLT, effOf, effMem, effVar, effLit, effMake, effApp, lend, evLit, evNil, freeze, evField, evIndexT, orNil, evSlice, placeOf, evMap, mapOf, keyOk, evFrame, closed, fixed, sameEs, wit, Option.isSome_some, St.with, wantedD, Array.size, te, einl, inls, efr]) ?_
  rintro ⟨⟨n, x, out⟩, h1, h2, h3, h4, h5⟩
  dsimp only at h1 h2 h3 h4 h5 ⊢
  by_cases hx : x < 60
  · obtain ⟨k, rfl⟩ : ∃ k, n = k + 1 := ⟨n - 1, by omega⟩
    have w0 : IntKind.i64.wrap (x + w) = x + w := wrap_in (by omega)
    rw [strF_go hx] at h1
    simp (maxSteps := 1000000) (implicitDefEqProofs := false) only [hx, outOb, ss, sd, evOp, evPlain, evVal, evMem, St.get, sliceOf, arrayOf, fieldsOf, normOf, norm, look, evVar, evFieldAddr, nameOf, St.alloc, St.drop, killOb, part, splice, depth, resultsV, ↓reduceIte, Nat.reduceBEq, Nat.reduceAdd, Nat.reduceSub, Nat.reduceMul, Nat.reduceEqDiff, Nat.reduceLeDiff, Nat.reduceLT, effOf, effMem, effVar, effLit, effMake, effApp, lend, evLit, evNil, freeze, evField, evIndexT, orNil, evSlice, placeOf, evMap, mapOf, keyOk, evFrame, closed, fixed, sameEs, wit, Option.isSome_some, St.with, wantedD, Array.size, te, einl, inls, efr]
    generalize hr : loopAt _ _ _ _ _ _ = r; revert r
    refine loop_nat 60 (fun i _ => [(10, .int .i64 (i : Nat))]) (fun i _ => [(9, stripOb x (refScan (rowHas f x w) i).1 (refScan (rowHas f x w) i).2)]) (fun _ (_ : Unit) => True) () (by omega) (by simp (maxSteps := 1000000) (implicitDefEqProofs := false) only [stripOb, refScan, scan, ss, sd, evOp, evPlain, evVal, evMem, St.get, sliceOf, arrayOf, fieldsOf, normOf, norm, look, evVar, evFieldAddr, nameOf, St.alloc, St.drop, killOb, part, splice, depth, resultsV, ↓reduceIte, Nat.reduceBEq, Nat.reduceAdd, Nat.reduceSub, Nat.reduceMul, Nat.reduceEqDiff, Nat.reduceLeDiff, Nat.reduceLT, effOf, effMem, effVar, effLit, effMake, effApp, lend, evLit, evNil, freeze, evField, evIndexT, orNil, evSlice, placeOf, evMap, mapOf, keyOk, evFrame, closed, fixed, sameEs, wit, Option.isSome_some, St.with, wantedD, Array.size, te, einl, inls, efr]) trivial (fun _ _ => ?_) (fun i _ _ a1 a2 a3 => ?_)
    · have c1 : ¬ ((60 : Nat) : Int) < 60 := by omega
      have sin := scan_in (rowHas f x w) 60
      by_cases hb : 0 < (stripM f x w).b
      · rw [if_pos hb] at h1
        have hb' : ¬ (scan (rowHas f x w) 60).2 = 0 := fun e => by have : (stripM f x w).b = (scan (rowHas f x w) 60).2 := rfl; omega
        have e0 : refScan (rowHas f x w) 60 = scan (rowHas f x w) 60 := if_neg hb'
        have hge : 0 ≤ (scan (rowHas f x w) 60).1 := sin.1
        have hroom : roomy (out.length + 1) 24 = true := by simp [roomy]; omega
        have hbig : out.length + 1 ≤ 4294967296 := by omega
        have e1 : out.map encStrip ++ [.agg [.int .i64 x, .int .i64 (scan (rowHas f x w) 60).1, .int .i64 (scan (rowHas f x w) 60).2]] = (out ++ [stripM f x w]).map encStrip := by simp [encStrip, stripM]
        have e2 : out.length + 1 = (out ++ [stripM f x w]).length := by simp
        simp (maxSteps := 1000000) (implicitDefEqProofs := false) only [c1, w0, e0, hge, hroom, hbig, e1, stripOb, ss, sd, evOp, evPlain, evVal, evMem, St.get, sliceOf, arrayOf, fieldsOf, normOf, norm, look, evVar, evFieldAddr, nameOf, St.alloc, St.drop, killOb, part, splice, depth, resultsV, ↓reduceIte, Nat.reduceBEq, Nat.reduceAdd, Nat.reduceSub, Nat.reduceMul, Nat.reduceEqDiff, Nat.reduceLeDiff, Nat.reduceLT, effOf, effMem, effVar, effLit, effMake, effApp, lend, evLit, evNil, freeze, evField, evIndexT, orNil, evSlice, placeOf, evMap, mapOf, keyOk, evFrame, closed, fixed, sameEs, wit, Option.isSome_some, St.with, wantedD, Array.size, te, einl, inls, efr]
        refine ⟨⟨(k, x + w, out ++ [stripM f x w]), by simpa using h1, by dsimp only; omega, by dsimp only; omega, by dsimp only; omega, by dsimp only; simp; omega⟩, ?_, by dsimp only; omega⟩
        dsimp only
        rw [e2]
      · rw [if_neg hb] at h1
        have hb' : (scan (rowHas f x w) 60).2 = 0 := by have : (stripM f x w).b = (scan (rowHas f x w) 60).2 := rfl; omega
        have e0 : refScan (rowHas f x w) 60 = (-1, 0) := if_pos hb'
        have hge : ¬ (0 : Int) ≤ -1 := by omega
        simp (maxSteps := 1000000) (implicitDefEqProofs := false) only [c1, w0, e0, hge, stripOb, ss, sd, evOp, evPlain, evVal, evMem, St.get, sliceOf, arrayOf, fieldsOf, normOf, norm, look, evVar, evFieldAddr, nameOf, St.alloc, St.drop, killOb, part, splice, depth, resultsV, ↓reduceIte, Nat.reduceBEq, Nat.reduceAdd, Nat.reduceSub, Nat.reduceMul, Nat.reduceEqDiff, Nat.reduceLeDiff, Nat.reduceLT, effOf, effMem, effVar, effLit, effMake, effApp, lend, evLit, evNil, freeze, evField, evIndexT, orNil, evSlice, placeOf, evMap, mapOf, keyOk, evFrame, closed, fixed, sameEs, wit, Option.isSome_some, St.with, wantedD, Array.size, te, einl, inls, efr]
        exact ⟨⟨(k, x + w, out), h1, by dsimp only; omega, by dsimp only; omega, by dsimp only; omega, by dsimp only; omega⟩, rfl, by dsimp only; omega⟩
    · have a4 : (i : Int) < 60 := by omega
      have sin := scan_in (rowHas f x w) i
      simp (maxSteps := 1000000) (implicitDefEqProofs := false) only [a4, stripOb, ss, sd, evOp, evPlain, evVal, evMem, St.get, sliceOf, arrayOf, fieldsOf, normOf, norm, look, evVar, evFieldAddr, nameOf, St.alloc, St.drop, killOb, part, splice, depth, resultsV, ↓reduceIte, Nat.reduceBEq, Nat.reduceAdd, Nat.reduceSub, Nat.reduceMul, Nat.reduceEqDiff, Nat.reduceLeDiff, Nat.reduceLT, effOf, effMem, effVar, effLit, effMake, effApp, lend, evLit, evNil, freeze, evField, evIndexT, orNil, evSlice, placeOf, evMap, mapOf, keyOk, evFrame, closed, fixed, sameEs, wit, Option.isSome_some, St.with, wantedD, Array.size, te, einl, inls, efr]
      generalize hr : loopAt _ _ _ _ _ _ = r; revert r
      refine loop_nat w.toNat (fun j _ => [(11, .int .i64 (x + (j : Int)))]) (fun _ b => [(9, stripOb x (refVal (rowHas f x w) i b).1 (refVal (rowHas f x w) i b).2)])
        (fun j (b : Bool) => b = true ↔ ∃ q : Nat, q < j ∧ f (x + q) i = true) false (by omega) (by simp (maxSteps := 1000000) (implicitDefEqProofs := false) only [Int.natCast_zero, Int.add_zero, stripOb, refVal, ss, sd, evOp, evPlain, evVal, evMem, St.get, sliceOf, arrayOf, fieldsOf, normOf, norm, look, evVar, evFieldAddr, nameOf, St.alloc, St.drop, killOb, part, splice, depth, resultsV, ↓reduceIte, Nat.reduceBEq, Nat.reduceAdd, Nat.reduceSub, Nat.reduceMul, Nat.reduceEqDiff, Nat.reduceLeDiff, Nat.reduceLT, effOf, effMem, effVar, effLit, effMake, effApp, lend, evLit, evNil, freeze, evField, evIndexT, orNil, evSlice, placeOf, evMap, mapOf, keyOk, evFrame, closed, fixed, sameEs, wit, Option.isSome_some, St.with, wantedD, Array.size, te, einl, inls, efr]) (by simp) (fun b hb => ?_) (fun j b hb b1 b2 _ => ?_)
      · have c1 : ¬ x + ((w.toNat : Nat) : Int) < x + w := by omega
        have e0 : b = rowHas f x w i := by
          rw [Bool.eq_iff_iff, hb, rowHas_iff]
          constructor
          · rintro ⟨q, hq, h⟩; exact ⟨x + q, by omega, by omega, h⟩
          · rintro ⟨c, hc1, hc2, h⟩
            refine ⟨(c - x).toNat, by omega, ?_⟩
            rw [show x + (((c - x).toNat : Nat) : Int) = c by omega]; exact h
        have e1 : refScan (rowHas f x w) (i + 1) = refVal (rowHas f x w) i b := by rw [e0]; exact refScan_next
        simp (maxSteps := 1000000) (implicitDefEqProofs := false) only [c1, w0, a3, e1, stripOb, ss, sd, evOp, evPlain, evVal, evMem, St.get, sliceOf, arrayOf, fieldsOf, normOf, norm, look, evVar, evFieldAddr, nameOf, St.alloc, St.drop, killOb, part, splice, depth, resultsV, ↓reduceIte, Nat.reduceBEq, Nat.reduceAdd, Nat.reduceSub, Nat.reduceMul, Nat.reduceEqDiff, Nat.reduceLeDiff, Nat.reduceLT, effOf, effMem, effVar, effLit, effMake, effApp, lend, evLit, evNil, freeze, evField, evIndexT, orNil, evSlice, placeOf, evMap, mapOf, keyOk, evFrame, closed, fixed, sameEs, wit, Option.isSome_some, St.with, wantedD, Array.size, te, einl, inls, efr]
        (first | exact ⟨(), trivial⟩ | refine ⟨(), ?_, trivial⟩ | skip)
      · have c1 : x + (j : Int) < x + w := by omega
        have w1 : IntKind.i64.wrap (x + (j : Int) + 1) = x + ((j + 1 : Nat) : Int) := by rw [wrap_in (by omega)]; omega
        have k2 := k1 (x + (j : Int)) i
        cases hc : f (x + (j : Int)) i with
        | false =>
          rw [hc] at k2
          simp (maxSteps := 1000000) (implicitDefEqProofs := false) only [c1, w0, w1, k2, stripOb, ss, sd, evOp, evPlain, evVal, evMem, St.get, sliceOf, arrayOf, fieldsOf, normOf, norm, look, evVar, evFieldAddr, nameOf, St.alloc, St.drop, killOb, part, splice, depth, resultsV, ↓reduceIte, Nat.reduceBEq, Nat.reduceAdd, Nat.reduceSub, Nat.reduceMul, Nat.reduceEqDiff, Nat.reduceLeDiff, Nat.reduceLT, effOf, effMem, effVar, effLit, effMake, effApp, lend, evLit, evNil, freeze, evField, evIndexT, orNil, evSlice, placeOf, evMap, mapOf, keyOk, evFrame, closed, fixed, sameEs, wit, Option.isSome_some, St.with, wantedD, Array.size, te, einl, inls, efr]
          refine ⟨b, rfl, hb.trans ?_⟩
          constructor
          · rintro ⟨q, hq, h⟩; exact ⟨q, by omega, h⟩
          · rintro ⟨q, hq, h⟩
            refine ⟨q, ?_, h⟩
            by_cases hqj : q = j
            · subst hqj; rw [hc] at h; cases h
            · omega
        | true =>
          rw [hc] at k2
          have hyes : (true = true) ↔ ∃ q : Nat, q < j + 1 ∧ f (x + q) i = true := ⟨fun _ => ⟨j, by omega, hc⟩, fun _ => rfl⟩
          cases b with
          | true =>
            have hge : ¬ (refVal (rowHas f x w) i true).1 < 0 := by
              unfold refVal
              dsimp only
              split <;> omega
            have e3 : ((i + 1 : Nat) : Int) = (refVal (rowHas f x w) i true).2 := rfl
            rw [e3] at a3
            simp (maxSteps := 1000000) (implicitDefEqProofs := false) only [c1, w0, w1, k2, a3, hge, stripOb, ss, sd, evOp, evPlain, evVal, evMem, St.get, sliceOf, arrayOf, fieldsOf, normOf, norm, look, evVar, evFieldAddr, nameOf, St.alloc, St.drop, killOb, part, splice, depth, resultsV, ↓reduceIte, Nat.reduceBEq, Nat.reduceAdd, Nat.reduceSub, Nat.reduceMul, Nat.reduceEqDiff, Nat.reduceLeDiff, Nat.reduceLT, effOf, effMem, effVar, effLit, effMake, effApp, lend, evLit, evNil, freeze, evField, evIndexT, orNil, evSlice, placeOf, evMap, mapOf, keyOk, evFrame, closed, fixed, sameEs, wit, Option.isSome_some, St.with, wantedD, Array.size, te, einl, inls, efr]
            exact ⟨true, rfl, hyes⟩
          | false =>
            by_cases hz : (scan (rowHas f x w) i).2 = 0
            · have e4 : refVal (rowHas f x w) i false = (-1, 0) := if_pos hz
              have e5 : refVal (rowHas f x w) i true = ((i : Int), ((i + 1 : Nat) : Int)) := by unfold refVal; rw [if_pos hz]
              have hlt : (-1 : Int) < 0 := by omega
              simp (maxSteps := 1000000) (implicitDefEqProofs := false) only [c1, w0, w1, k2, a3, e4, hlt, stripOb, ss, sd, evOp, evPlain, evVal, evMem, St.get, sliceOf, arrayOf, fieldsOf, normOf, norm, look, evVar, evFieldAddr, nameOf, St.alloc, St.drop, killOb, part, splice, depth, resultsV, ↓reduceIte, Nat.reduceBEq, Nat.reduceAdd, Nat.reduceSub, Nat.reduceMul, Nat.reduceEqDiff, Nat.reduceLeDiff, Nat.reduceLT, effOf, effMem, effVar, effLit, effMake, effApp, lend, evLit, evNil, freeze, evField, evIndexT, orNil, evSlice, placeOf, evMap, mapOf, keyOk, evFrame, closed, fixed, sameEs, wit, Option.isSome_some, St.with, wantedD, Array.size, te, einl, inls, efr]
              exact ⟨true, by rw [e5], hyes⟩
            · have e4 : refVal (rowHas f x w) i false = scan (rowHas f x w) i := if_neg hz
              have e5 : refVal (rowHas f x w) i true = ((scan (rowHas f x w) i).1, ((i + 1 : Nat) : Int)) := by unfold refVal; rw [if_neg hz]
              have hlt : ¬ (scan (rowHas f x w) i).1 < 0 := by omega
              simp (maxSteps := 1000000) (implicitDefEqProofs := false) only [c1, w0, w1, k2, a3, e4, hlt, stripOb, ss, sd, evOp, evPlain, evVal, evMem, St.get, sliceOf, arrayOf, fieldsOf, normOf, norm, look, evVar, evFieldAddr, nameOf, St.alloc, St.drop, killOb, part, splice, depth, resultsV, ↓reduceIte, Nat.reduceBEq, Nat.reduceAdd, Nat.reduceSub, Nat.reduceMul, Nat.reduceEqDiff, Nat.reduceLeDiff, Nat.reduceLT, effOf, effMem, effVar, effLit, effMake, effApp, lend, evLit, evNil, freeze, evField, evIndexT, orNil, evSlice, placeOf, evMap, mapOf, keyOk, evFrame, closed, fixed, sameEs, wit, Option.isSome_some, St.with, wantedD, Array.size, te, einl, inls, efr]
              exact ⟨true, by rw [e5], hyes⟩
  · rw [strF_stop (by omega), List.append_nil] at h1
    subst h1
    simp (maxSteps := 1000000) (implicitDefEqProofs := false) only [hx, outOb, Try.ntmps75, Try.results75, efc75, fc75, take_map_length, ss, sd, evOp, evPlain, evVal, evMem, St.get, sliceOf, arrayOf, fieldsOf, normOf, norm, look, evVar, evFieldAddr, nameOf, St.alloc, St.drop, killOb, part, splice, depth, resultsV, ↓reduceIte, Nat.reduceBEq, Nat.reduceAdd, Nat.reduceSub, Nat.reduceMul, Nat.reduceEqDiff, Nat.reduceLeDiff, Nat.reduceLT, effOf, effMem, effVar, effLit, effMake, effApp, lend, evLit, evNil, freeze, evField, evIndexT, orNil, evSlice, placeOf, evMap, mapOf, keyOk, evFrame, closed, fixed, sameEs, wit, Option.isSome_some, St.with, wantedD, Array.size, te, einl, inls, efr]
end Go.AM.D
