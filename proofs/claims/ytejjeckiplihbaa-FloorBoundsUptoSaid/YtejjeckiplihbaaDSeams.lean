/-
Seams.
-/
import Derived.Test.YtejjeckiplihbaaDStripsB
set_option linter.unusedSimpArgs false
set_option maxRecDepth 20000

namespace Go.AM.D
open Go Go.AM Go.Proofs

theorem c110 {f : Int → Int → Bool} (hf : Inside f) (x y : Int) (hx : -100 ≤ x ∧ x ≤ 100) : (orcω E X0).call 110 [.fp false (gridF f) 0, .int .i64 x, .int .i64 y] = some (.bool (joinsM f x y)) := by
  refine call_of rfl fn110 rfl ?_
  have k1 := fun x y => k70 hf x y
  have w1 : IntKind.i64.wrap (x - 1) = x - 1 := wrap_in (by omega)
  unfold joinsM
  cases h1 : f (x - 1) y with
  | false => simp (maxSteps := 1000000) (implicitDefEqProofs := false) only [Try.ntmps110, Try.results110, efc110, k1, w1, h1, Bool.false_and, ss, sd, evOp, evPlain, evVal, evMem, St.get, sliceOf, arrayOf, fieldsOf, normOf, norm, look, evVar, evFieldAddr, nameOf, St.alloc, St.drop, killOb, part, splice, depth, resultsV, ↓reduceIte, Nat.reduceBEq, Nat.reduceAdd, Nat.reduceSub, Nat.reduceMul, Nat.reduceEqDiff, Nat.reduceLeDiff, Nat.reduceLT, effOf, effMem, effVar, effLit, effMake, effApp, lend, evLit, evNil, freeze, evField, evIndexT, orNil, evSlice, placeOf, evMap, mapOf, keyOk, evFrame, closed, fixed, sameEs, wit, Option.isSome_some, St.with, wantedD, Array.size, te, einl, inls, efr]
  | true => simp (maxSteps := 1000000) (implicitDefEqProofs := false) only [Try.ntmps110, Try.results110, efc110, k1, w1, h1, Bool.true_and, ss, sd, evOp, evPlain, evVal, evMem, St.get, sliceOf, arrayOf, fieldsOf, normOf, norm, look, evVar, evFieldAddr, nameOf, St.alloc, St.drop, killOb, part, splice, depth, resultsV, ↓reduceIte, Nat.reduceBEq, Nat.reduceAdd, Nat.reduceSub, Nat.reduceMul, Nat.reduceEqDiff, Nat.reduceLeDiff, Nat.reduceLT, effOf, effMem, effVar, effLit, effMake, effApp, lend, evLit, evNil, freeze, evField, evIndexT, orNil, evSlice, placeOf, evMap, mapOf, keyOk, evFrame, closed, fixed, sameEs, wit, Option.isSome_some, St.with, wantedD, Array.size, te, einl, inls, efr]
theorem c111 (r : Room) (hr : ∀ a ∈ r.rects, rectOk a = true) (hn : r.rects.length ≤ 1000000000) (x y : Int) (hx : -100 ≤ x ∧ x ≤ 100) : (orcω E X0).call 111 [encRoom r, .int .i64 x, .int .i64 y] = some (.bool (joinsM (cellM r.rects) x y)) := by
  refine call_of rfl fn111 rfl ?_
  have k1 := fun x y => c69 r x y hr hn
  obtain ⟨rs, ds⟩ := r
  dsimp only at k1 ⊢
  generalize cellM rs = f at *
  have w1 : IntKind.i64.wrap (x - 1) = x - 1 := wrap_in (by omega)
  unfold joinsM
  unfold encRoom at k1 ⊢
  cases h1 : f (x - 1) y with
  | false => simp (maxSteps := 1000000) (implicitDefEqProofs := false) only [Try.ntmps111, Try.results111, efc111, k1, w1, h1, Bool.false_and, ss, sd, evOp, evPlain, evVal, evMem, St.get, sliceOf, arrayOf, fieldsOf, normOf, norm, look, evVar, evFieldAddr, nameOf, St.alloc, St.drop, killOb, part, splice, depth, resultsV, ↓reduceIte, Nat.reduceBEq, Nat.reduceAdd, Nat.reduceSub, Nat.reduceMul, Nat.reduceEqDiff, Nat.reduceLeDiff, Nat.reduceLT, effOf, effMem, effVar, effLit, effMake, effApp, lend, evLit, evNil, freeze, evField, evIndexT, orNil, evSlice, placeOf, evMap, mapOf, keyOk, evFrame, closed, fixed, sameEs, wit, Option.isSome_some, St.with, wantedD, Array.size, te, einl, inls, efr]
  | true => simp (maxSteps := 1000000) (implicitDefEqProofs := false) only [Try.ntmps111, Try.results111, efc111, k1, w1, h1, Bool.true_and, ss, sd, evOp, evPlain, evVal, evMem, St.get, sliceOf, arrayOf, fieldsOf, normOf, norm, look, evVar, evFieldAddr, nameOf, St.alloc, St.drop, killOb, part, splice, depth, resultsV, ↓reduceIte, Nat.reduceBEq, Nat.reduceAdd, Nat.reduceSub, Nat.reduceMul, Nat.reduceEqDiff, Nat.reduceLeDiff, Nat.reduceLT, effOf, effMem, effVar, effLit, effMake, effApp, lend, evLit, evNil, freeze, evField, evIndexT, orNil, evSlice, placeOf, evMap, mapOf, keyOk, evFrame, closed, fixed, sameEs, wit, Option.isSome_some, St.with, wantedD, Array.size, te, einl, inls, efr]

theorem seamF_stop {f : Int → Int → Bool} {w x : Int} (h : 60 ≤ x) : ∀ n, seamF f w n x = []
  | 0 => rfl
  | n + 1 => by unfold seamF; rw [if_neg (by omega)]
theorem seamF_go {f : Int → Int → Bool} {w x : Int} (h : x < 60) (n : Nat) : seamF f w (n + 1) x = if seamAt f x = true then x :: seamF f w n (x + w) else seamF f w n (x + w) := by
  show (if x < 60 then _ else _) = _
  rw [if_pos h]
theorem seamAt_no {f : Int → Int → Bool} {x : Int} (h : ∀ y : Nat, y < 60 → joinsM f x y = false) : seamAt f x = false := by
  unfold seamAt
  rw [List.any_eq_false]
  intro y hy
  rw [h y (List.mem_range.1 hy)]
  decide
theorem seamAt_yes {f : Int → Int → Bool} {x : Int} {y : Nat} (hy : y < 60) (h : joinsM f x y = true) : seamAt f x = true := by
  unfold seamAt
  rw [List.any_eq_true]
  exact ⟨y, List.mem_range.2 hy, h⟩
def numsOb (l : List Int) : Ob := { es := 1, flat := true, t := true, app := true, elems := l.map vI }
theorem seamF_in {f : Int → Int → Bool} {w : Int} (hw : 0 ≤ w) : ∀ (n : Nat) (x : Int), ∀ a ∈ seamF f w n x, x ≤ a ∧ a < 60
  | 0, _ => fun a ha => by cases ha
  | n + 1, x => by
    intro a ha
    unfold seamF at ha
    split at ha
    · split at ha
      · rcases List.mem_cons.1 ha with h | h
        · omega
        · have := seamF_in hw n (x + w) a h
          omega
      · have := seamF_in hw n (x + w) a ha
        omega
    · cases ha
theorem seamF_len {f : Int → Int → Bool} {w : Int} : ∀ (n : Nat) (x : Int), (seamF f w n x).length ≤ n
  | 0, _ => by simp [seamF]
  | n + 1, x => by
    have := seamF_len (f := f) (w := w) n (x + w)
    unfold seamF
    split
    · split
      · simp; omega
      · omega
    · simp
theorem seams_in {f : Int → Int → Bool} {w o : Int} (hw : 1 ≤ w) (ho : 0 ≤ o) : ∀ a ∈ seamsM f w o, 0 ≤ a ∧ a < 60 := fun a ha => by
  have := seamF_in (by omega) _ _ a ha
  omega
theorem seams_len {f : Int → Int → Bool} {w o : Int} : (seamsM f w o).length ≤ 62 := seamF_len _ _

set_option maxRecDepth 20000 in
set_option maxHeartbeats 8000000 in
theorem c76 {f : Int → Int → Bool} (hf : Inside f) (w o : Int) (hw : 1 ≤ w ∧ w ≤ 20) (ho : 0 ≤ o ∧ o < w) : (orcω E X0).call 76 [.fp false (gridF f) 0, .int .i64 w, .int .i64 o] =
    some (.sl true ((seamsM f w o).map vI)) := by
  refine call_of rfl fn76 rfl ?_
  simp (maxSteps := 1000000) (implicitDefEqProofs := false) only [Try.ntmps76, Try.results76, efc76, fc76, ss, sd, evOp, evPlain, evVal, evMem, St.get, sliceOf, arrayOf, fieldsOf, normOf, norm, look, evVar, evFieldAddr, nameOf, St.alloc, St.drop, killOb, part, splice, depth, resultsV, ↓reduceIte, Nat.reduceBEq, Nat.reduceAdd, Nat.reduceSub, Nat.reduceMul, Nat.reduceEqDiff, Nat.reduceLeDiff, Nat.reduceLT, effOf, effMem, effVar, effLit, effMake, effApp, lend, evLit, evNil, freeze, evField, evIndexT, orNil, evSlice, placeOf, evMap, mapOf, keyOk, evFrame, closed, fixed, sameEs, wit, Option.isSome_some, St.with, wantedD, Array.size, te, einl, inls, efr]
  generalize hr : loopAt _ _ _ _ _ _ = r; revert r
  refine loop_inv (ι := { p : Nat × Int × List Int // p.2.2 ++ seamF f w p.1 p.2.1 = seamsM f w o ∧ 0 ≤ p.2.1 ∧ p.2.1 < 100 ∧ 60 ≤ p.2.1 + p.1 ∧ p.2.2.length + p.1 ≤ 62 })
    (fun i => [(7, .own 7 0 i.1.2.2.length), (8, .int .i64 i.1.2.1)]) (fun i => [(7, numsOb i.1.2.2)]) (fun i => i.1.1) ⟨(62, o, []), rfl, by dsimp only; omega, by dsimp only; omega, by dsimp only; omega, by dsimp only; simp⟩ (by simp (maxSteps := 1000000) (implicitDefEqProofs := false) only [numsOb, ss, sd, evOp, evPlain, evVal, evMem, St.get, sliceOf, arrayOf, fieldsOf, normOf, norm, look, evVar, evFieldAddr, nameOf, St.alloc, St.drop, killOb, part, splice, depth, resultsV, ↓reduceIte, Nat.reduceBEq, Nat.reduceAdd, Nat.reduceSub, Nat.reduceMul, Nat.reduceEqDiff, Nat.reduceLeDiff, Nat.reduceLT, effOf, effMem, effVar, effLit, effMake, effApp, lend, evLit, evNil, freeze, evField, evIndexT, orNil, evSlice, placeOf, evMap, mapOf, keyOk, evFrame, closed, fixed, sameEs, wit, Option.isSome_some, St.with, wantedD, Array.size, te, einl, inls, efr]) ?_
  rintro ⟨⟨n, x, out⟩, h1, h2, h3, h4, h5⟩
  dsimp only at h1 h2 h3 h4 h5 ⊢
  by_cases hx : x < 60
  · obtain ⟨k, rfl⟩ : ∃ k, n = k + 1 := ⟨n - 1, by omega⟩
    have k1 := fun y => c110 hf x y (by omega)
    have w1 : IntKind.i64.wrap (x + w) = x + w := wrap_in (by omega)
    rw [seamF_go hx] at h1
    simp (maxSteps := 1000000) (implicitDefEqProofs := false) only [hx, numsOb, ss, sd, evOp, evPlain, evVal, evMem, St.get, sliceOf, arrayOf, fieldsOf, normOf, norm, look, evVar, evFieldAddr, nameOf, St.alloc, St.drop, killOb, part, splice, depth, resultsV, ↓reduceIte, Nat.reduceBEq, Nat.reduceAdd, Nat.reduceSub, Nat.reduceMul, Nat.reduceEqDiff, Nat.reduceLeDiff, Nat.reduceLT, effOf, effMem, effVar, effLit, effMake, effApp, lend, evLit, evNil, freeze, evField, evIndexT, orNil, evSlice, placeOf, evMap, mapOf, keyOk, evFrame, closed, fixed, sameEs, wit, Option.isSome_some, St.with, wantedD, Array.size, te, einl, inls, efr]
    generalize hr : loopAt _ _ _ _ _ _ = r; revert r
    refine loop_nat 60 (fun i _ => [(16, .int .i64 (i : Nat))]) (fun _ _ => []) (fun i (_ : Unit) => ∀ j : Nat, j < i → joinsM f x j = false) () (by omega) (by simp (maxSteps := 1000000) (implicitDefEqProofs := false) only [ss, sd, evOp, evPlain, evVal, evMem, St.get, sliceOf, arrayOf, fieldsOf, normOf, norm, look, evVar, evFieldAddr, nameOf, St.alloc, St.drop, killOb, part, splice, depth, resultsV, ↓reduceIte, Nat.reduceBEq, Nat.reduceAdd, Nat.reduceSub, Nat.reduceMul, Nat.reduceEqDiff, Nat.reduceLeDiff, Nat.reduceLT, effOf, effMem, effVar, effLit, effMake, effApp, lend, evLit, evNil, freeze, evField, evIndexT, orNil, evSlice, placeOf, evMap, mapOf, keyOk, evFrame, closed, fixed, sameEs, wit, Option.isSome_some, St.with, wantedD, Array.size, te, einl, inls, efr]) (fun j hj => by omega) (fun _ hi => ?_) (fun i _ hi a1 a2 a3 => ?_)
    · have c1 : ¬ ((60 : Nat) : Int) < 60 := by omega
      rw [seamAt_no hi, if_neg (by decide)] at h1
      simp (maxSteps := 1000000) (implicitDefEqProofs := false) only [c1, w1, numsOb, ss, sd, evOp, evPlain, evVal, evMem, St.get, sliceOf, arrayOf, fieldsOf, normOf, norm, look, evVar, evFieldAddr, nameOf, St.alloc, St.drop, killOb, part, splice, depth, resultsV, ↓reduceIte, Nat.reduceBEq, Nat.reduceAdd, Nat.reduceSub, Nat.reduceMul, Nat.reduceEqDiff, Nat.reduceLeDiff, Nat.reduceLT, effOf, effMem, effVar, effLit, effMake, effApp, lend, evLit, evNil, freeze, evField, evIndexT, orNil, evSlice, placeOf, evMap, mapOf, keyOk, evFrame, closed, fixed, sameEs, wit, Option.isSome_some, St.with, wantedD, Array.size, te, einl, inls, efr]
      exact ⟨⟨(k, x + w, out), h1, by dsimp only; omega, by dsimp only; omega, by dsimp only; omega, by dsimp only; omega⟩, rfl, by dsimp only; omega⟩
    · have a4 : (i : Int) < 60 := by omega
      have k2 := k1 i
      cases hj : joinsM f x i with
      | false =>
        rw [hj] at k2
        simp (maxSteps := 1000000) (implicitDefEqProofs := false) only [a4, a3, k2, ss, sd, evOp, evPlain, evVal, evMem, St.get, sliceOf, arrayOf, fieldsOf, normOf, norm, look, evVar, evFieldAddr, nameOf, St.alloc, St.drop, killOb, part, splice, depth, resultsV, ↓reduceIte, Nat.reduceBEq, Nat.reduceAdd, Nat.reduceSub, Nat.reduceMul, Nat.reduceEqDiff, Nat.reduceLeDiff, Nat.reduceLT, effOf, effMem, effVar, effLit, effMake, effApp, lend, evLit, evNil, freeze, evField, evIndexT, orNil, evSlice, placeOf, evMap, mapOf, keyOk, evFrame, closed, fixed, sameEs, wit, Option.isSome_some, St.with, wantedD, Array.size, te, einl, inls, efr]
        exact ⟨(), fun j hjj => by
          by_cases h : j = i
          · subst h; exact hj
          · exact hi j (by omega)⟩
      | true =>
        rw [hj] at k2
        rw [seamAt_yes (by omega) hj, if_pos rfl] at h1
        have hroom : roomy (out.length + 1) 8 = true := by simp [roomy]; omega
        have hbig : out.length + 1 ≤ 4294967296 := by omega
        have e1 : out.map vI ++ [.int .i64 x] = (out ++ [x]).map vI := by simp [vI]
        have e2 : out.length + 1 = (out ++ [x]).length := by simp
        simp (maxSteps := 1000000) (implicitDefEqProofs := false) only [a4, a3, k2, w1, hroom, hbig, e1, numsOb, ss, sd, evOp, evPlain, evVal, evMem, St.get, sliceOf, arrayOf, fieldsOf, normOf, norm, look, evVar, evFieldAddr, nameOf, St.alloc, St.drop, killOb, part, splice, depth, resultsV, ↓reduceIte, Nat.reduceBEq, Nat.reduceAdd, Nat.reduceSub, Nat.reduceMul, Nat.reduceEqDiff, Nat.reduceLeDiff, Nat.reduceLT, effOf, effMem, effVar, effLit, effMake, effApp, lend, evLit, evNil, freeze, evField, evIndexT, orNil, evSlice, placeOf, evMap, mapOf, keyOk, evFrame, closed, fixed, sameEs, wit, Option.isSome_some, St.with, wantedD, Array.size, te, einl, inls, efr]
        refine ⟨⟨(k, x + w, out ++ [x]), by simpa using h1, by dsimp only; omega, by dsimp only; omega, by dsimp only; omega, by dsimp only; simp; omega⟩, ?_, by dsimp only; omega⟩
        dsimp only
        rw [e2]
  · rw [seamF_stop (by omega), List.append_nil] at h1
    subst h1
    simp (maxSteps := 1000000) (implicitDefEqProofs := false) only [hx, numsOb, Try.ntmps76, Try.results76, efc76, fc76, take_map_length, ss, sd, evOp, evPlain, evVal, evMem, St.get, sliceOf, arrayOf, fieldsOf, normOf, norm, look, evVar, evFieldAddr, nameOf, St.alloc, St.drop, killOb, part, splice, depth, resultsV, ↓reduceIte, Nat.reduceBEq, Nat.reduceAdd, Nat.reduceSub, Nat.reduceMul, Nat.reduceEqDiff, Nat.reduceLeDiff, Nat.reduceLT, effOf, effMem, effVar, effLit, effMake, effApp, lend, evLit, evNil, freeze, evField, evIndexT, orNil, evSlice, placeOf, evMap, mapOf, keyOk, evFrame, closed, fixed, sameEs, wit, Option.isSome_some, St.with, wantedD, Array.size, te, einl, inls, efr]

set_option maxRecDepth 20000 in
set_option maxHeartbeats 8000000 in
theorem c77 (r : Room) (hr : ∀ a ∈ r.rects, rectOk a = true) (hn : r.rects.length ≤ 1000000000) (w o : Int) (hw : 1 ≤ w ∧ w ≤ 20) (ho : 0 ≤ o ∧ o < w) : (orcω E X0).call 77 [encRoom r, .int .i64 w, .int .i64 o] =
    some (.sl true ((seamsM (cellM r.rects) w o).map vI)) := by
  refine call_of rfl fn77 rfl ?_
  have k0 := fun x y hx => c111 r hr hn x y hx
  obtain ⟨rs, ds⟩ := r
  dsimp only at k0 ⊢
  generalize cellM rs = f at *
  unfold encRoom at k0 ⊢
  simp (maxSteps := 1000000) (implicitDefEqProofs := false) only [Try.ntmps77, Try.results77, efc77, fc77, ss, sd, evOp, evPlain, evVal, evMem, St.get, sliceOf, arrayOf, fieldsOf, normOf, norm, look, evVar, evFieldAddr, nameOf, St.alloc, St.drop, killOb, part, splice, depth, resultsV, ↓reduceIte, Nat.reduceBEq, Nat.reduceAdd, Nat.reduceSub, Nat.reduceMul, Nat.reduceEqDiff, Nat.reduceLeDiff, Nat.reduceLT, effOf, effMem, effVar, effLit, effMake, effApp, lend, evLit, evNil, freeze, evField, evIndexT, orNil, evSlice, placeOf, evMap, mapOf, keyOk, evFrame, closed, fixed, sameEs, wit, Option.isSome_some, St.with, wantedD, Array.size, te, einl, inls, efr]
  generalize hr : loopAt _ _ _ _ _ _ = r; revert r
  refine loop_inv (ι := { p : Nat × Int × List Int // p.2.2 ++ seamF f w p.1 p.2.1 = seamsM f w o ∧ 0 ≤ p.2.1 ∧ p.2.1 < 100 ∧ 60 ≤ p.2.1 + p.1 ∧ p.2.2.length + p.1 ≤ 62 })
    (fun i => [(7, .own 7 0 i.1.2.2.length), (8, .int .i64 i.1.2.1)]) (fun i => [(7, numsOb i.1.2.2)]) (fun i => i.1.1) ⟨(62, o, []), rfl, by dsimp only; omega, by dsimp only; omega, by dsimp only; omega, by dsimp only; simp⟩ (by simp (maxSteps := 1000000) (implicitDefEqProofs := false) only [numsOb, ss, sd, evOp, evPlain, evVal, evMem, St.get, sliceOf, arrayOf, fieldsOf, normOf, norm, look, evVar, evFieldAddr, nameOf, St.alloc, St.drop, killOb, part, splice, depth, resultsV, ↓reduceIte, Nat.reduceBEq, Nat.reduceAdd, Nat.reduceSub, Nat.reduceMul, Nat.reduceEqDiff, Nat.reduceLeDiff, Nat.reduceLT, effOf, effMem, effVar, effLit, effMake, effApp, lend, evLit, evNil, freeze, evField, evIndexT, orNil, evSlice, placeOf, evMap, mapOf, keyOk, evFrame, closed, fixed, sameEs, wit, Option.isSome_some, St.with, wantedD, Array.size, te, einl, inls, efr]) ?_
  rintro ⟨⟨n, x, out⟩, h1, h2, h3, h4, h5⟩
  dsimp only at h1 h2 h3 h4 h5 ⊢
  by_cases hx : x < 60
  · obtain ⟨k, rfl⟩ : ∃ k, n = k + 1 := ⟨n - 1, by omega⟩
    have k1 := fun y => k0 x y (by omega)
    have w1 : IntKind.i64.wrap (x + w) = x + w := wrap_in (by omega)
    rw [seamF_go hx] at h1
    simp (maxSteps := 1000000) (implicitDefEqProofs := false) only [hx, numsOb, ss, sd, evOp, evPlain, evVal, evMem, St.get, sliceOf, arrayOf, fieldsOf, normOf, norm, look, evVar, evFieldAddr, nameOf, St.alloc, St.drop, killOb, part, splice, depth, resultsV, ↓reduceIte, Nat.reduceBEq, Nat.reduceAdd, Nat.reduceSub, Nat.reduceMul, Nat.reduceEqDiff, Nat.reduceLeDiff, Nat.reduceLT, effOf, effMem, effVar, effLit, effMake, effApp, lend, evLit, evNil, freeze, evField, evIndexT, orNil, evSlice, placeOf, evMap, mapOf, keyOk, evFrame, closed, fixed, sameEs, wit, Option.isSome_some, St.with, wantedD, Array.size, te, einl, inls, efr]
    generalize hr : loopAt _ _ _ _ _ _ = r; revert r
    refine loop_nat 60 (fun i b => [(9, .bool b), (10, .int .i64 (i : Nat))]) (fun _ _ => []) (fun i (b : Bool) => b = true ↔ ∃ j : Nat, j < i ∧ joinsM f x j = true) false (by omega) (by simp (maxSteps := 1000000) (implicitDefEqProofs := false) only [ss, sd, evOp, evPlain, evVal, evMem, St.get, sliceOf, arrayOf, fieldsOf, normOf, norm, look, evVar, evFieldAddr, nameOf, St.alloc, St.drop, killOb, part, splice, depth, resultsV, ↓reduceIte, Nat.reduceBEq, Nat.reduceAdd, Nat.reduceSub, Nat.reduceMul, Nat.reduceEqDiff, Nat.reduceLeDiff, Nat.reduceLT, effOf, effMem, effVar, effLit, effMake, effApp, lend, evLit, evNil, freeze, evField, evIndexT, orNil, evSlice, placeOf, evMap, mapOf, keyOk, evFrame, closed, fixed, sameEs, wit, Option.isSome_some, St.with, wantedD, Array.size, te, einl, inls, efr]) (by simp) (fun b hb => ?_) (fun i b hb a1 a2 a3 => ?_)
    · have c1 : ¬ ((60 : Nat) : Int) < 60 := by omega
      cases b with
      | false =>
        have hs : seamAt f x = false := seamAt_no fun y hy => by
          rw [Bool.eq_false_iff]; intro h
          exact absurd (hb.2 ⟨y, hy, h⟩) (by decide)
        rw [hs, if_neg (by decide)] at h1
        simp (maxSteps := 1000000) (implicitDefEqProofs := false) only [c1, w1, numsOb, ss, sd, evOp, evPlain, evVal, evMem, St.get, sliceOf, arrayOf, fieldsOf, normOf, norm, look, evVar, evFieldAddr, nameOf, St.alloc, St.drop, killOb, part, splice, depth, resultsV, ↓reduceIte, Nat.reduceBEq, Nat.reduceAdd, Nat.reduceSub, Nat.reduceMul, Nat.reduceEqDiff, Nat.reduceLeDiff, Nat.reduceLT, effOf, effMem, effVar, effLit, effMake, effApp, lend, evLit, evNil, freeze, evField, evIndexT, orNil, evSlice, placeOf, evMap, mapOf, keyOk, evFrame, closed, fixed, sameEs, wit, Option.isSome_some, St.with, wantedD, Array.size, te, einl, inls, efr]
        exact ⟨⟨(k, x + w, out), h1, by dsimp only; omega, by dsimp only; omega, by dsimp only; omega, by dsimp only; omega⟩, rfl, by dsimp only; omega⟩
      | true =>
        obtain ⟨y, hy, hj⟩ := hb.1 rfl
        rw [seamAt_yes hy hj, if_pos rfl] at h1
        have hroom : roomy (out.length + 1) 8 = true := by simp [roomy]; omega
        have hbig : out.length + 1 ≤ 4294967296 := by omega
        have e1 : out.map vI ++ [.int .i64 x] = (out ++ [x]).map vI := by simp [vI]
        have e2 : out.length + 1 = (out ++ [x]).length := by simp
        simp (maxSteps := 1000000) (implicitDefEqProofs := false) only [c1, w1, hroom, hbig, e1, numsOb, ss, sd, evOp, evPlain, evVal, evMem, St.get, sliceOf, arrayOf, fieldsOf, normOf, norm, look, evVar, evFieldAddr, nameOf, St.alloc, St.drop, killOb, part, splice, depth, resultsV, ↓reduceIte, Nat.reduceBEq, Nat.reduceAdd, Nat.reduceSub, Nat.reduceMul, Nat.reduceEqDiff, Nat.reduceLeDiff, Nat.reduceLT, effOf, effMem, effVar, effLit, effMake, effApp, lend, evLit, evNil, freeze, evField, evIndexT, orNil, evSlice, placeOf, evMap, mapOf, keyOk, evFrame, closed, fixed, sameEs, wit, Option.isSome_some, St.with, wantedD, Array.size, te, einl, inls, efr]
        refine ⟨⟨(k, x + w, out ++ [x]), by simpa using h1, by dsimp only; omega, by dsimp only; omega, by dsimp only; omega, by dsimp only; simp; omega⟩, ?_, by dsimp only; omega⟩
        dsimp only
        rw [e2]
    · have a4 : (i : Int) < 60 := by omega
      have k2 := k1 i
      cases b with
      | true =>
        simp (maxSteps := 1000000) (implicitDefEqProofs := false) only [a4, a3, ss, sd, evOp, evPlain, evVal, evMem, St.get, sliceOf, arrayOf, fieldsOf, normOf, norm, look, evVar, evFieldAddr, nameOf, St.alloc, St.drop, killOb, part, splice, depth, resultsV, ↓reduceIte, Nat.reduceBEq, Nat.reduceAdd, Nat.reduceSub, Nat.reduceMul, Nat.reduceEqDiff, Nat.reduceLeDiff, Nat.reduceLT, effOf, effMem, effVar, effLit, effMake, effApp, lend, evLit, evNil, freeze, evField, evIndexT, orNil, evSlice, placeOf, evMap, mapOf, keyOk, evFrame, closed, fixed, sameEs, wit, Option.isSome_some, St.with, wantedD, Array.size, te, einl, inls, efr]
        exact ⟨true, rfl, fun _ => (by obtain ⟨j, hj, h⟩ := hb.1 rfl; exact ⟨j, by omega, h⟩), fun _ => rfl⟩
      | false =>
        simp (maxSteps := 1000000) (implicitDefEqProofs := false) only [a4, a3, k2, ss, sd, evOp, evPlain, evVal, evMem, St.get, sliceOf, arrayOf, fieldsOf, normOf, norm, look, evVar, evFieldAddr, nameOf, St.alloc, St.drop, killOb, part, splice, depth, resultsV, ↓reduceIte, Nat.reduceBEq, Nat.reduceAdd, Nat.reduceSub, Nat.reduceMul, Nat.reduceEqDiff, Nat.reduceLeDiff, Nat.reduceLT, effOf, effMem, effVar, effLit, effMake, effApp, lend, evLit, evNil, freeze, evField, evIndexT, orNil, evSlice, placeOf, evMap, mapOf, keyOk, evFrame, closed, fixed, sameEs, wit, Option.isSome_some, St.with, wantedD, Array.size, te, einl, inls, efr]
        refine ⟨joinsM f x i, rfl, fun h => ⟨i, by omega, h⟩, ?_⟩
        rintro ⟨j, hj, h⟩
        by_cases hji : j = i
        · subst hji; exact h
        · exact absurd (hb.2 ⟨j, by omega, h⟩) (by decide)
  · rw [seamF_stop (by omega), List.append_nil] at h1
    subst h1
    simp (maxSteps := 1000000) (implicitDefEqProofs := false) only [hx, numsOb, Try.ntmps77, Try.results77, efc77, fc77, take_map_length, ss, sd, evOp, evPlain, evVal, evMem, St.get, sliceOf, arrayOf, fieldsOf, normOf, norm, look, evVar, evFieldAddr, nameOf, St.alloc, St.drop, killOb, part, splice, depth, resultsV, ↓reduceIte, Nat.reduceBEq, Nat.reduceAdd, Nat.reduceSub, Nat.reduceMul, Nat.reduceEqDiff, Nat.reduceLeDiff, Nat.reduceLT, effOf, effMem, effVar, effLit, effMake, effApp, lend, evLit, evNil, freeze, evField, evIndexT, orNil, evSlice, placeOf, evMap, mapOf, keyOk, evFrame, closed, fixed, sameEs, wit, Option.isSome_some, St.with, wantedD, Array.size, te, einl, inls, efr]

/-- Seams in doors. -/
theorem any_no {α : Type} {p : α → Bool} {l : List α} (h : ∀ a ∈ l, p a = false) : l.any p = false := by
  rw [List.any_eq_false]
  intro a ha
  rw [h a ha]
  decide
end Go.AM.D
