/-
Doors and offsets.
-/
import Derived.Test.YtejjeckiplihbaaDSeams
set_option linter.unusedSimpArgs false
set_option maxRecDepth 20000

namespace Go.AM.D
open Go Go.AM Go.Proofs

theorem strF_ok {f : Int → Int → Bool} {w : Int} : ∀ (n : Nat) (x : Int), ∀ s ∈ strF f w n x, 0 ≤ s.a ∧ s.a ≤ s.b ∧ s.b ≤ 60
  | 0, _ => fun a ha => by cases ha
  | n + 1, x => by
    intro s hs
    have h := scan_in (rowHas f x w) 60
    have e : (stripM f x w).a = (scan (rowHas f x w) 60).1 ∧ (stripM f x w).b = (scan (rowHas f x w) 60).2 := ⟨rfl, rfl⟩
    unfold strF at hs
    split at hs
    · split at hs
      · rcases List.mem_cons.1 hs with h | h
        · subst h; omega
        · exact strF_ok n (x + w) s h
      · exact strF_ok n (x + w) s hs
    · cases hs
theorem strF_len {f : Int → Int → Bool} {w : Int} : ∀ (n : Nat) (x : Int), (strF f w n x).length ≤ n
  | 0, _ => by simp [strF]
  | n + 1, x => by
    have := strF_len (f := f) (w := w) n (x + w)
    unfold strF
    split
    · split
      · simp; omega
      · omega
    · simp
theorem strips_ok {f : Int → Int → Bool} {w o : Int} : ∀ s ∈ stripsM f w o, 0 ≤ s.a ∧ s.a ≤ s.b ∧ s.b ≤ 60 := strF_ok _ _
theorem strips_len {f : Int → Int → Bool} {w o : Int} : (stripsM f w o).length ≤ 82 := strF_len _ _
theorem lenM_snoc (l : List Strip) (s : Strip) : lenM (l ++ [s]) = lenM l + (s.b - s.a) := by unfold lenM; simp
theorem lenM_in {l : List Strip} (h : ∀ s ∈ l, 0 ≤ s.a ∧ s.a ≤ s.b ∧ s.b ≤ 60) : 0 ≤ lenM l ∧ lenM l ≤ 60 * l.length := by
  induction l with
  | nil => simp [lenM]
  | cons s l ih =>
    have h1 := h s (by simp)
    have h2 := ih fun a ha => h a (by simp [ha])
    have e : lenM (s :: l) = (s.b - s.a) + lenM l := by simp [lenM]
    rw [e, List.length_cons]
    omega

set_option maxRecDepth 20000 in
set_option maxHeartbeats 8000000 in
theorem c80 (l : List Strip) (h : ∀ s ∈ l, 0 ≤ s.a ∧ s.a ≤ s.b ∧ s.b ≤ 60) (hn : l.length ≤ 1000000000) : (orcω E X0).call 80 [.sl false (l.map encStrip)] = some (.int .i64 (lenM l)) := by
  refine call_of rfl fn80 rfl ?_
  simp (maxSteps := 1000000) (implicitDefEqProofs := false) only [Try.ntmps80, Try.results80, efc80, fc80, List.length_map, ss, sd, evOp, evPlain, evVal, evMem, St.get, sliceOf, arrayOf, fieldsOf, normOf, norm, look, evVar, evFieldAddr, nameOf, St.alloc, St.drop, killOb, part, splice, depth, resultsV, ↓reduceIte, Nat.reduceBEq, Nat.reduceAdd, Nat.reduceSub, Nat.reduceMul, Nat.reduceEqDiff, Nat.reduceLeDiff, Nat.reduceLT, effOf, effMem, effVar, effLit, effMake, effApp, lend, evLit, evNil, freeze, evField, evIndexT, orNil, evSlice, placeOf, evMap, mapOf, keyOk, evFrame, closed, fixed, sameEs, wit, Option.isSome_some, St.with, wantedD, Array.size, te, einl, inls, efr]
  generalize hr : loopAt _ _ _ _ _ _ = r; revert r
  refine loop_list l (fun pre _ => [(3, .int .i64 (lenM pre)), (8, .int .i64 pre.length)]) (fun _ _ => []) (fun _ (_ : Unit) => True) () (by omega) (by simp (maxSteps := 1000000) (implicitDefEqProofs := false) only [lenM, List.map_nil, List.sum_nil, ss, sd, evOp, evPlain, evVal, evMem, St.get, sliceOf, arrayOf, fieldsOf, normOf, norm, look, evVar, evFieldAddr, nameOf, St.alloc, St.drop, killOb, part, splice, depth, resultsV, ↓reduceIte, Nat.reduceBEq, Nat.reduceAdd, Nat.reduceSub, Nat.reduceMul, Nat.reduceEqDiff, Nat.reduceLeDiff, Nat.reduceLT, effOf, effMem, effVar, effLit, effMake, effApp, lend, evLit, evNil, freeze, evField, evIndexT, orNil, evSlice, placeOf, evMap, mapOf, keyOk, evFrame, closed, fixed, sameEs, wit, Option.isSome_some, St.with, wantedD, Array.size, te, einl, inls, efr]) trivial (fun _ _ => ?_) (fun pre x post _ hp _ g1 g2 g3 g4 => ?_)
  · simp (maxSteps := 1000000) (implicitDefEqProofs := false) only [Int.lt_irrefl, Try.ntmps80, Try.results80, efc80, fc80, ss, sd, evOp, evPlain, evVal, evMem, St.get, sliceOf, arrayOf, fieldsOf, normOf, norm, look, evVar, evFieldAddr, nameOf, St.alloc, St.drop, killOb, part, splice, depth, resultsV, ↓reduceIte, Nat.reduceBEq, Nat.reduceAdd, Nat.reduceSub, Nat.reduceMul, Nat.reduceEqDiff, Nat.reduceLeDiff, Nat.reduceLT, effOf, effMem, effVar, effLit, effMake, effApp, lend, evLit, evNil, freeze, evField, evIndexT, orNil, evSlice, placeOf, evMap, mapOf, keyOk, evFrame, closed, fixed, sameEs, wit, Option.isSome_some, St.with, wantedD, Array.size, te, einl, inls, efr]
  · have hb := h x (by rw [hp]; simp)
    have b1 := lenM_in (l := pre) fun a ha => h a (by rw [hp]; simp [ha])
    have w1 : IntKind.i64.wrap (x.b - x.a) = x.b - x.a := wrap_in (by omega)
    have w2 : IntKind.i64.wrap (lenM pre + (x.b - x.a)) = lenM (pre ++ [x]) := by rw [lenM_snoc, wrap_in (by omega)]
    simp (maxSteps := 1000000) (implicitDefEqProofs := false) only [g1, g2, g3, g4, w1, w2, encStrip, Int.natCast_nonneg, Int.toNat_natCast, List.getElem?_map, List.length_map, ss, sd, evOp, evPlain, evVal, evMem, St.get, sliceOf, arrayOf, fieldsOf, normOf, norm, look, evVar, evFieldAddr, nameOf, St.alloc, St.drop, killOb, part, splice, depth, resultsV, ↓reduceIte, Nat.reduceBEq, Nat.reduceAdd, Nat.reduceSub, Nat.reduceMul, Nat.reduceEqDiff, Nat.reduceLeDiff, Nat.reduceLT, effOf, effMem, effVar, effLit, effMake, effApp, lend, evLit, evNil, freeze, evField, evIndexT, orNil, evSlice, placeOf, evMap, mapOf, keyOk, evFrame, closed, fixed, sameEs, wit, Option.isSome_some, St.with, wantedD, Array.size, te, einl, inls, efr]
    (first | exact ⟨(), trivial⟩ | refine ⟨(), ?_, trivial⟩ | skip)

theorem okT81 : okCode (Try.f81.body.getD .skip) = true := by decide +kernel
set_option maxRecDepth 20000 in
set_option maxHeartbeats 8000000 in
theorem c81 (l : List Strip) (h : ∀ s ∈ l, 0 ≤ s.a ∧ s.a ≤ s.b ∧ s.b ≤ 60) (hn : l.length ≤ 1000000000) : (orcω E X0).call 81 [.sl false (l.map encStrip)] = some (.int .i64 (lenM l)) := by
  refine call_of rfl fn81 rfl ?_
  have hok := okT81
  simp only [Try.f81, Option.getD_some, okCode, Bool.and_eq_true, Bool.and_true, Bool.true_and] at hok
  simp (maxSteps := 1000000) (implicitDefEqProofs := false) only [Try.ntmps81, Try.results81, efc81, fc81, List.length_map, ss, sd, evOp, evPlain, evVal, evMem, St.get, sliceOf, arrayOf, fieldsOf, normOf, norm, look, evVar, evFieldAddr, nameOf, St.alloc, St.drop, killOb, part, splice, depth, resultsV, ↓reduceIte, Nat.reduceBEq, Nat.reduceAdd, Nat.reduceSub, Nat.reduceMul, Nat.reduceEqDiff, Nat.reduceLeDiff, Nat.reduceLT, effOf, effMem, effVar, effLit, effMake, effApp, lend, evLit, evNil, freeze, evField, evIndexT, orNil, evSlice, placeOf, evMap, mapOf, keyOk, evFrame, closed, fixed, sameEs, wit, Option.isSome_some, St.with, wantedD, Array.size, te, einl, inls, efr]
  generalize hr : loopAt _ _ _ _ _ _ = r; revert r
  refine loop_list l (fun pre _ => [(3, .int .i64 (lenM pre)), (4, .int .i64 pre.length)]) (fun _ _ => []) (fun _ (_ : Unit) => True) () (by omega) (by simp (maxSteps := 1000000) (implicitDefEqProofs := false) only [lenM, List.map_nil, List.sum_nil, ss, sd, evOp, evPlain, evVal, evMem, St.get, sliceOf, arrayOf, fieldsOf, normOf, norm, look, evVar, evFieldAddr, nameOf, St.alloc, St.drop, killOb, part, splice, depth, resultsV, ↓reduceIte, Nat.reduceBEq, Nat.reduceAdd, Nat.reduceSub, Nat.reduceMul, Nat.reduceEqDiff, Nat.reduceLeDiff, Nat.reduceLT, effOf, effMem, effVar, effLit, effMake, effApp, lend, evLit, evNil, freeze, evField, evIndexT, orNil, evSlice, placeOf, evMap, mapOf, keyOk, evFrame, closed, fixed, sameEs, wit, Option.isSome_some, St.with, wantedD, Array.size, te, einl, inls, efr]) trivial (fun _ _ => ?_) (fun pre x post _ hp _ g1 g2 g3 g4 => ?_)
  · simp (maxSteps := 1000000) (implicitDefEqProofs := false) only [Int.lt_irrefl, Try.ntmps81, Try.results81, efc81, fc81, List.length_map, ss, sd, evOp, evPlain, evVal, evMem, St.get, sliceOf, arrayOf, fieldsOf, normOf, norm, look, evVar, evFieldAddr, nameOf, St.alloc, St.drop, killOb, part, splice, depth, resultsV, ↓reduceIte, Nat.reduceBEq, Nat.reduceAdd, Nat.reduceSub, Nat.reduceMul, Nat.reduceEqDiff, Nat.reduceLeDiff, Nat.reduceLT, effOf, effMem, effVar, effLit, effMake, effApp, lend, evLit, evNil, freeze, evField, evIndexT, orNil, evSlice, placeOf, evMap, mapOf, keyOk, evFrame, closed, fixed, sameEs, wit, Option.isSome_some, St.with, wantedD, Array.size, te, einl, inls, efr]
  · have hb := h x (by rw [hp]; simp)
    have b1 := lenM_in (l := pre) fun a ha => h a (by rw [hp]; simp [ha])
    have w1 : IntKind.i64.wrap (x.b - x.a) = x.b - x.a := wrap_in (by omega)
    have w2 : IntKind.i64.wrap (lenM pre + (x.b - x.a)) = lenM (pre ++ [x]) := by rw [lenM_snoc, wrap_in (by omega)]
    simp (maxSteps := 1000000) (implicitDefEqProofs := false) only [evRegion_st hok, g1, g2, g3, g4, w1, w2, encStrip, Int.natCast_nonneg, Int.toNat_natCast, List.getElem?_map, List.length_map, ss, sd, evOp, evPlain, evVal, evMem, St.get, sliceOf, arrayOf, fieldsOf, normOf, norm, look, evVar, evFieldAddr, nameOf, St.alloc, St.drop, killOb, part, splice, depth, resultsV, ↓reduceIte, Nat.reduceBEq, Nat.reduceAdd, Nat.reduceSub, Nat.reduceMul, Nat.reduceEqDiff, Nat.reduceLeDiff, Nat.reduceLT, effOf, effMem, effVar, effLit, effMake, effApp, lend, evLit, evNil, freeze, evField, evIndexT, orNil, evSlice, placeOf, evMap, mapOf, keyOk, evFrame, closed, fixed, sameEs, wit, Option.isSome_some, St.with, wantedD, Array.size, te, einl, inls, efr]
    (first | exact ⟨(), trivial⟩ | refine ⟨(), ?_, trivial⟩ | skip)

set_option maxRecDepth 20000 in
set_option maxHeartbeats 8000000 in
theorem c78 {f : Int → Int → Bool} (hf : Inside f) (ds : List Door) (hd : ∀ d ∈ ds, doorOk d = true) (hn : ds.length ≤ 4) (w o : Int) (hw : 1 ≤ w ∧ w ≤ 20) (ho : 0 ≤ o ∧ o < w) : (orcω E X0).call 78 [.fp false (gridF f) 0, .sl false (ds.map encDoor), .int .i64 w, .int .i64 o] =
    some (.bool (inDoorM f ds w o)) := by
  refine call_of rfl fn78 rfl ?_
  have k1 := c76 hf w o hw ho
  have hs := seams_in (f := f) hw.1 ho.1
  have hl := seams_len (f := f) (w := w) (o := o)
  have k2 := fun x y hx => c110 hf x y hx
  unfold inDoorM
  generalize seamsM f w o = l at *
  simp (maxSteps := 1000000) (implicitDefEqProofs := false) only [Try.ntmps78, Try.results78, efc78, fc78, k1, List.length_map, ss, sd, evOp, evPlain, evVal, evMem, St.get, sliceOf, arrayOf, fieldsOf, normOf, norm, look, evVar, evFieldAddr, nameOf, St.alloc, St.drop, killOb, part, splice, depth, resultsV, ↓reduceIte, Nat.reduceBEq, Nat.reduceAdd, Nat.reduceSub, Nat.reduceMul, Nat.reduceEqDiff, Nat.reduceLeDiff, Nat.reduceLT, effOf, effMem, effVar, effLit, effMake, effApp, lend, evLit, evNil, freeze, evField, evIndexT, orNil, evSlice, placeOf, evMap, mapOf, keyOk, evFrame, closed, fixed, sameEs, wit, Option.isSome_some, St.with, wantedD, Array.size, te, einl, inls, efr]
  generalize hr : loopAt _ _ _ _ _ _ = r; revert r
  refine loop_list l (fun pre _ => [(18, .int .i64 pre.length)]) (fun _ _ => []) (fun pre (_ : Unit) => (pre.any fun x => ds.any (doorHit f x)) = false) () (by omega) (by simp (maxSteps := 1000000) (implicitDefEqProofs := false) only [ss, sd, evOp, evPlain, evVal, evMem, St.get, sliceOf, arrayOf, fieldsOf, normOf, norm, look, evVar, evFieldAddr, nameOf, St.alloc, St.drop, killOb, part, splice, depth, resultsV, ↓reduceIte, Nat.reduceBEq, Nat.reduceAdd, Nat.reduceSub, Nat.reduceMul, Nat.reduceEqDiff, Nat.reduceLeDiff, Nat.reduceLT, effOf, effMem, effVar, effLit, effMake, effApp, lend, evLit, evNil, freeze, evField, evIndexT, orNil, evSlice, placeOf, evMap, mapOf, keyOk, evFrame, closed, fixed, sameEs, wit, Option.isSome_some, St.with, wantedD, Array.size, te, einl, inls, efr]) rfl (fun _ hi => ?_) (fun pre x post _ hp hi g1 g2 g3 g4 => ?_)
  · simp (maxSteps := 1000000) (implicitDefEqProofs := false) only [Int.lt_irrefl, hi, Try.ntmps78, Try.results78, efc78, fc78, ss, sd, evOp, evPlain, evVal, evMem, St.get, sliceOf, arrayOf, fieldsOf, normOf, norm, look, evVar, evFieldAddr, nameOf, St.alloc, St.drop, killOb, part, splice, depth, resultsV, ↓reduceIte, Nat.reduceBEq, Nat.reduceAdd, Nat.reduceSub, Nat.reduceMul, Nat.reduceEqDiff, Nat.reduceLeDiff, Nat.reduceLT, effOf, effMem, effVar, effLit, effMake, effApp, lend, evLit, evNil, freeze, evField, evIndexT, orNil, evSlice, placeOf, evMap, mapOf, keyOk, evFrame, closed, fixed, sameEs, wit, Option.isSome_some, St.with, wantedD, Array.size, te, einl, inls, efr]
  · have hx := hs x (by rw [hp]; simp)
    have yes : ∀ h : ds.any (doorHit f x) = true, (l.any fun x => ds.any (doorHit f x)) = true := fun h => by rw [hp, List.any_append, List.any_cons, h]; simp
    have no : ∀ h : ds.any (doorHit f x) = false, ((pre ++ [x]).any fun x => ds.any (doorHit f x)) = false := fun h => by rw [List.any_append, hi, List.any_cons, h]; rfl
    simp (maxSteps := 1000000) (implicitDefEqProofs := false) only [g1, g2, g3, g4, vI, Option.map_some, Int.natCast_nonneg, Int.toNat_natCast, List.getElem?_map, List.length_map, ss, sd, evOp, evPlain, evVal, evMem, St.get, sliceOf, arrayOf, fieldsOf, normOf, norm, look, evVar, evFieldAddr, nameOf, St.alloc, St.drop, killOb, part, splice, depth, resultsV, ↓reduceIte, Nat.reduceBEq, Nat.reduceAdd, Nat.reduceSub, Nat.reduceMul, Nat.reduceEqDiff, Nat.reduceLeDiff, Nat.reduceLT, effOf, effMem, effVar, effLit, effMake, effApp, lend, evLit, evNil, freeze, evField, evIndexT, orNil, evSlice, placeOf, evMap, mapOf, keyOk, evFrame, closed, fixed, sameEs, wit, Option.isSome_some, St.with, wantedD, Array.size, te, einl, inls, efr]
    generalize hr : loopAt _ _ _ _ _ _ = r; revert r
    refine loop_list ds (fun p _ => [(24, .int .i64 p.length)]) (fun _ _ => []) (fun p (_ : Unit) => p.any (doorHit f x) = false) () (by omega) (by simp (maxSteps := 1000000) (implicitDefEqProofs := false) only [ss, sd, evOp, evPlain, evVal, evMem, St.get, sliceOf, arrayOf, fieldsOf, normOf, norm, look, evVar, evFieldAddr, nameOf, St.alloc, St.drop, killOb, part, splice, depth, resultsV, ↓reduceIte, Nat.reduceBEq, Nat.reduceAdd, Nat.reduceSub, Nat.reduceMul, Nat.reduceEqDiff, Nat.reduceLeDiff, Nat.reduceLT, effOf, effMem, effVar, effLit, effMake, effApp, lend, evLit, evNil, freeze, evField, evIndexT, orNil, evSlice, placeOf, evMap, mapOf, keyOk, evFrame, closed, fixed, sameEs, wit, Option.isSome_some, St.with, wantedD, Array.size, te, einl, inls, efr]) rfl (fun _ hi2 => ?_) (fun p d q _ hp2 hi2 e1 e2 e3 e4 => ?_)
    · simp (maxSteps := 1000000) (implicitDefEqProofs := false) only [Int.lt_irrefl, g1, g2, g3, g4, ss, sd, evOp, evPlain, evVal, evMem, St.get, sliceOf, arrayOf, fieldsOf, normOf, norm, look, evVar, evFieldAddr, nameOf, St.alloc, St.drop, killOb, part, splice, depth, resultsV, ↓reduceIte, Nat.reduceBEq, Nat.reduceAdd, Nat.reduceSub, Nat.reduceMul, Nat.reduceEqDiff, Nat.reduceLeDiff, Nat.reduceLT, effOf, effMem, effVar, effLit, effMake, effApp, lend, evLit, evNil, freeze, evField, evIndexT, orNil, evSlice, placeOf, evMap, mapOf, keyOk, evFrame, closed, fixed, sameEs, wit, Option.isSome_some, St.with, wantedD, Array.size, te, einl, inls, efr]
      exact ⟨(), no hi2⟩
    · have hb := doorOk_iff.1 (hd d (by rw [hp2]; simp))
      have w1 : IntKind.i64.wrap (d.y - 1) = d.y - 1 := wrap_in (by omega)
      have kA := k2 x d.y (by omega)
      have kB := k2 x (d.y - 1) (by omega)
      have yes2 : ∀ h : doorHit f x d = true, (l.any fun x => ds.any (doorHit f x)) = true := fun h => yes (by rw [hp2, List.any_append, List.any_cons, h]; simp)
      have no2 : ∀ h : doorHit f x d = false, (p ++ [d]).any (doorHit f x) = false := fun h => by rw [List.any_append, hi2, List.any_cons, h]; rfl
      by_cases h1 : d.x1 < x
      · by_cases h2 : x < d.x2
        · cases h3 : joinsM f x d.y with
          | true =>
            rw [h3] at kA
            have r := yes2 (by simp [doorHit, h1, h2, h3])
            simp (maxSteps := 1000000) (implicitDefEqProofs := false) only [e1, e2, e3, e4, h1, h2, kA, r, encDoor, Int.natCast_nonneg, Int.toNat_natCast, List.getElem?_map, List.length_map, Try.ntmps78, Try.results78, efc78, fc78, ss, sd, evOp, evPlain, evVal, evMem, St.get, sliceOf, arrayOf, fieldsOf, normOf, norm, look, evVar, evFieldAddr, nameOf, St.alloc, St.drop, killOb, part, splice, depth, resultsV, ↓reduceIte, Nat.reduceBEq, Nat.reduceAdd, Nat.reduceSub, Nat.reduceMul, Nat.reduceEqDiff, Nat.reduceLeDiff, Nat.reduceLT, effOf, effMem, effVar, effLit, effMake, effApp, lend, evLit, evNil, freeze, evField, evIndexT, orNil, evSlice, placeOf, evMap, mapOf, keyOk, evFrame, closed, fixed, sameEs, wit, Option.isSome_some, St.with, wantedD, Array.size, te, einl, inls, efr]
          | false =>
            rw [h3] at kA
            cases h4 : joinsM f x (d.y - 1) with
            | true =>
              rw [h4] at kB
              have r := yes2 (by simp [doorHit, h1, h2, h3, h4])
              simp (maxSteps := 1000000) (implicitDefEqProofs := false) only [e1, e2, e3, e4, h1, h2, kA, w1, kB, r, encDoor, Int.natCast_nonneg, Int.toNat_natCast, List.getElem?_map, List.length_map, Try.ntmps78, Try.results78, efc78, fc78, ss, sd, evOp, evPlain, evVal, evMem, St.get, sliceOf, arrayOf, fieldsOf, normOf, norm, look, evVar, evFieldAddr, nameOf, St.alloc, St.drop, killOb, part, splice, depth, resultsV, ↓reduceIte, Nat.reduceBEq, Nat.reduceAdd, Nat.reduceSub, Nat.reduceMul, Nat.reduceEqDiff, Nat.reduceLeDiff, Nat.reduceLT, effOf, effMem, effVar, effLit, effMake, effApp, lend, evLit, evNil, freeze, evField, evIndexT, orNil, evSlice, placeOf, evMap, mapOf, keyOk, evFrame, closed, fixed, sameEs, wit, Option.isSome_some, St.with, wantedD, Array.size, te, einl, inls, efr]
            | false =>
              rw [h4] at kB
              have r := no2 (by simp [doorHit, h3, h4])
              simp (maxSteps := 1000000) (implicitDefEqProofs := false) only [e1, e2, e3, e4, h1, h2, kA, w1, kB, encDoor, Int.natCast_nonneg, Int.toNat_natCast, List.getElem?_map, List.length_map, ss, sd, evOp, evPlain, evVal, evMem, St.get, sliceOf, arrayOf, fieldsOf, normOf, norm, look, evVar, evFieldAddr, nameOf, St.alloc, St.drop, killOb, part, splice, depth, resultsV, ↓reduceIte, Nat.reduceBEq, Nat.reduceAdd, Nat.reduceSub, Nat.reduceMul, Nat.reduceEqDiff, Nat.reduceLeDiff, Nat.reduceLT, effOf, effMem, effVar, effLit, effMake, effApp, lend, evLit, evNil, freeze, evField, evIndexT, orNil, evSlice, placeOf, evMap, mapOf, keyOk, evFrame, closed, fixed, sameEs, wit, Option.isSome_some, St.with, wantedD, Array.size, te, einl, inls, efr]
              exact ⟨(), r⟩
        · have r := no2 (by simp [doorHit, h2])
          simp (maxSteps := 1000000) (implicitDefEqProofs := false) only [e1, e2, e3, e4, h1, h2, encDoor, Int.natCast_nonneg, Int.toNat_natCast, List.getElem?_map, List.length_map, ss, sd, evOp, evPlain, evVal, evMem, St.get, sliceOf, arrayOf, fieldsOf, normOf, norm, look, evVar, evFieldAddr, nameOf, St.alloc, St.drop, killOb, part, splice, depth, resultsV, ↓reduceIte, Nat.reduceBEq, Nat.reduceAdd, Nat.reduceSub, Nat.reduceMul, Nat.reduceEqDiff, Nat.reduceLeDiff, Nat.reduceLT, effOf, effMem, effVar, effLit, effMake, effApp, lend, evLit, evNil, freeze, evField, evIndexT, orNil, evSlice, placeOf, evMap, mapOf, keyOk, evFrame, closed, fixed, sameEs, wit, Option.isSome_some, St.with, wantedD, Array.size, te, einl, inls, efr]
          exact ⟨(), r⟩
      · have r := no2 (by simp [doorHit, h1])
        simp (maxSteps := 1000000) (implicitDefEqProofs := false) only [e1, e2, e3, e4, h1, encDoor, Int.natCast_nonneg, Int.toNat_natCast, List.getElem?_map, List.length_map, ss, sd, evOp, evPlain, evVal, evMem, St.get, sliceOf, arrayOf, fieldsOf, normOf, norm, look, evVar, evFieldAddr, nameOf, St.alloc, St.drop, killOb, part, splice, depth, resultsV, ↓reduceIte, Nat.reduceBEq, Nat.reduceAdd, Nat.reduceSub, Nat.reduceMul, Nat.reduceEqDiff, Nat.reduceLeDiff, Nat.reduceLT, effOf, effMem, effVar, effLit, effMake, effApp, lend, evLit, evNil, freeze, evField, evIndexT, orNil, evSlice, placeOf, evMap, mapOf, keyOk, evFrame, closed, fixed, sameEs, wit, Option.isSome_some, St.with, wantedD, Array.size, te, einl, inls, efr]
        exact ⟨(), r⟩

theorem okT79 : okCode (Try.f79.body.getD .skip) = true := by decide +kernel
set_option maxRecDepth 20000 in
set_option maxHeartbeats 8000000 in
theorem c79 (r : Room) (hr : ∀ a ∈ r.rects, rectOk a = true) (hn : r.rects.length ≤ 1000000000) (hd : ∀ d ∈ r.doors, doorOk d = true) (hdn : r.doors.length ≤ 4) (w o : Int) (hw : 1 ≤ w ∧ w ≤ 20) (ho : 0 ≤ o ∧ o < w) : (orcω E X0).call 79 [encRoom r, .int .i64 w, .int .i64 o] =
    some (.bool (inDoorM (cellM r.rects) r.doors w o)) := by
  refine call_of rfl fn79 rfl ?_
  have hok := okT79
  simp only [Try.f79, Option.getD_some, okCode, Bool.and_eq_true, Bool.and_true, Bool.true_and] at hok
  have k1 := c77 r hr hn w o hw ho
  have hs := seams_in (f := cellM r.rects) hw.1 ho.1
  have hl := seams_len (f := cellM r.rects) (w := w) (o := o)
  have k2 := fun x y hx => c111 r hr hn x y hx
  unfold inDoorM
  obtain ⟨rs, ds⟩ := r
  dsimp only at *
  generalize seamsM (cellM rs) w o = l at *
  generalize cellM rs = f at *
  unfold encRoom at k1 k2 ⊢
  simp (maxSteps := 1000000) (implicitDefEqProofs := false) only [Try.ntmps79, Try.results79, efc79, fc79, k1, List.length_map, ss, sd, evOp, evPlain, evVal, evMem, St.get, sliceOf, arrayOf, fieldsOf, normOf, norm, look, evVar, evFieldAddr, nameOf, St.alloc, St.drop, killOb, part, splice, depth, resultsV, ↓reduceIte, Nat.reduceBEq, Nat.reduceAdd, Nat.reduceSub, Nat.reduceMul, Nat.reduceEqDiff, Nat.reduceLeDiff, Nat.reduceLT, effOf, effMem, effVar, effLit, effMake, effApp, lend, evLit, evNil, freeze, evField, evIndexT, orNil, evSlice, placeOf, evMap, mapOf, keyOk, evFrame, closed, fixed, sameEs, wit, Option.isSome_some, St.with, wantedD, Array.size, te, einl, inls, efr]
  generalize hr : loopAt _ _ _ _ _ _ = r; revert r
  refine loop_list l (fun pre _ => [(8, .int .i64 pre.length)]) (fun _ _ => []) (fun pre (_ : Unit) => (pre.any fun x => ds.any (doorHit f x)) = false) () (by omega) (by simp (maxSteps := 1000000) (implicitDefEqProofs := false) only [ss, sd, evOp, evPlain, evVal, evMem, St.get, sliceOf, arrayOf, fieldsOf, normOf, norm, look, evVar, evFieldAddr, nameOf, St.alloc, St.drop, killOb, part, splice, depth, resultsV, ↓reduceIte, Nat.reduceBEq, Nat.reduceAdd, Nat.reduceSub, Nat.reduceMul, Nat.reduceEqDiff, Nat.reduceLeDiff, Nat.reduceLT, effOf, effMem, effVar, effLit, effMake, effApp, lend, evLit, evNil, freeze, evField, evIndexT, orNil, evSlice, placeOf, evMap, mapOf, keyOk, evFrame, closed, fixed, sameEs, wit, Option.isSome_some, St.with, wantedD, Array.size, te, einl, inls, efr]) rfl (fun _ hi => ?_) (fun pre x post _ hp hi g1 g2 g3 g4 => ?_)
  · simp (maxSteps := 1000000) (implicitDefEqProofs := false) only [Int.lt_irrefl, hi, Try.ntmps79, Try.results79, efc79, fc79, List.length_map, ss, sd, evOp, evPlain, evVal, evMem, St.get, sliceOf, arrayOf, fieldsOf, normOf, norm, look, evVar, evFieldAddr, nameOf, St.alloc, St.drop, killOb, part, splice, depth, resultsV, ↓reduceIte, Nat.reduceBEq, Nat.reduceAdd, Nat.reduceSub, Nat.reduceMul, Nat.reduceEqDiff, Nat.reduceLeDiff, Nat.reduceLT, effOf, effMem, effVar, effLit, effMake, effApp, lend, evLit, evNil, freeze, evField, evIndexT, orNil, evSlice, placeOf, evMap, mapOf, keyOk, evFrame, closed, fixed, sameEs, wit, Option.isSome_some, St.with, wantedD, Array.size, te, einl, inls, efr]
  · have hx := hs x (by rw [hp]; simp)
    have yes : ∀ h : ds.any (doorHit f x) = true, (l.any fun x => ds.any (doorHit f x)) = true := fun h => by rw [hp, List.any_append, List.any_cons, h]; simp
    have no : ∀ h : ds.any (doorHit f x) = false, ((pre ++ [x]).any fun x => ds.any (doorHit f x)) = false := fun h => by rw [List.any_append, hi, List.any_cons, h]; rfl
    simp (maxSteps := 1000000) (implicitDefEqProofs := false) only [g1, g2, g3, g4, vI, Option.map_some, Int.natCast_nonneg, Int.toNat_natCast, List.getElem?_map, List.length_map, ss, sd, evOp, evPlain, evVal, evMem, St.get, sliceOf, arrayOf, fieldsOf, normOf, norm, look, evVar, evFieldAddr, nameOf, St.alloc, St.drop, killOb, part, splice, depth, resultsV, ↓reduceIte, Nat.reduceBEq, Nat.reduceAdd, Nat.reduceSub, Nat.reduceMul, Nat.reduceEqDiff, Nat.reduceLeDiff, Nat.reduceLT, effOf, effMem, effVar, effLit, effMake, effApp, lend, evLit, evNil, freeze, evField, evIndexT, orNil, evSlice, placeOf, evMap, mapOf, keyOk, evFrame, closed, fixed, sameEs, wit, Option.isSome_some, St.with, wantedD, Array.size, te, einl, inls, efr]
    generalize hr : loopAt _ _ _ _ _ _ = r; revert r
    refine loop_list ds (fun p _ => [(9, .int .i64 p.length)]) (fun _ _ => []) (fun p (_ : Unit) => p.any (doorHit f x) = false) () (by omega) (by simp (maxSteps := 1000000) (implicitDefEqProofs := false) only [ss, sd, evOp, evPlain, evVal, evMem, St.get, sliceOf, arrayOf, fieldsOf, normOf, norm, look, evVar, evFieldAddr, nameOf, St.alloc, St.drop, killOb, part, splice, depth, resultsV, ↓reduceIte, Nat.reduceBEq, Nat.reduceAdd, Nat.reduceSub, Nat.reduceMul, Nat.reduceEqDiff, Nat.reduceLeDiff, Nat.reduceLT, effOf, effMem, effVar, effLit, effMake, effApp, lend, evLit, evNil, freeze, evField, evIndexT, orNil, evSlice, placeOf, evMap, mapOf, keyOk, evFrame, closed, fixed, sameEs, wit, Option.isSome_some, St.with, wantedD, Array.size, te, einl, inls, efr]) rfl (fun _ hi2 => ?_) (fun p d q _ hp2 hi2 e1 e2 e3 e4 => ?_)
    · simp (maxSteps := 1000000) (implicitDefEqProofs := false) only [Int.lt_irrefl, g1, g2, g3, g4, List.length_map, ss, sd, evOp, evPlain, evVal, evMem, St.get, sliceOf, arrayOf, fieldsOf, normOf, norm, look, evVar, evFieldAddr, nameOf, St.alloc, St.drop, killOb, part, splice, depth, resultsV, ↓reduceIte, Nat.reduceBEq, Nat.reduceAdd, Nat.reduceSub, Nat.reduceMul, Nat.reduceEqDiff, Nat.reduceLeDiff, Nat.reduceLT, effOf, effMem, effVar, effLit, effMake, effApp, lend, evLit, evNil, freeze, evField, evIndexT, orNil, evSlice, placeOf, evMap, mapOf, keyOk, evFrame, closed, fixed, sameEs, wit, Option.isSome_some, St.with, wantedD, Array.size, te, einl, inls, efr]
      exact ⟨(), no hi2⟩
    · have hb := doorOk_iff.1 (hd d (by rw [hp2]; simp))
      have w1 : IntKind.i64.wrap (d.y - 1) = d.y - 1 := wrap_in (by omega)
      have kA := k2 x d.y (by omega)
      have kB := k2 x (d.y - 1) (by omega)
      have yes2 : ∀ h : doorHit f x d = true, (l.any fun x => ds.any (doorHit f x)) = true := fun h => yes (by rw [hp2, List.any_append, List.any_cons, h]; simp)
      have no2 : ∀ h : doorHit f x d = false, (p ++ [d]).any (doorHit f x) = false := fun h => by rw [List.any_append, hi2, List.any_cons, h]; rfl
      by_cases h1 : d.x1 < x
      · by_cases h2 : x < d.x2
        · cases h3 : joinsM f x d.y with
          | true =>
            rw [h3] at kA
            have r := yes2 (by simp [doorHit, h1, h2, h3])
            simp (maxSteps := 1000000) (implicitDefEqProofs := false) only [evRegion_st hok, vI, g1, g2, g3, g4, e1, e2, e3, e4, h1, h2, kA, r, encDoor, Int.natCast_nonneg, Int.toNat_natCast, List.getElem?_map, List.length_map, Try.ntmps79, Try.results79, efc79, fc79, ss, sd, evOp, evPlain, evVal, evMem, St.get, sliceOf, arrayOf, fieldsOf, normOf, norm, look, evVar, evFieldAddr, nameOf, St.alloc, St.drop, killOb, part, splice, depth, resultsV, ↓reduceIte, Nat.reduceBEq, Nat.reduceAdd, Nat.reduceSub, Nat.reduceMul, Nat.reduceEqDiff, Nat.reduceLeDiff, Nat.reduceLT, effOf, effMem, effVar, effLit, effMake, effApp, lend, evLit, evNil, freeze, evField, evIndexT, orNil, evSlice, placeOf, evMap, mapOf, keyOk, evFrame, closed, fixed, sameEs, wit, Option.isSome_some, St.with, wantedD, Array.size, te, einl, inls, efr]
          | false =>
            rw [h3] at kA
            cases h4 : joinsM f x (d.y - 1) with
            | true =>
              rw [h4] at kB
              have r := yes2 (by simp [doorHit, h1, h2, h3, h4])
              simp (maxSteps := 1000000) (implicitDefEqProofs := false) only [evRegion_st hok, vI, g1, g2, g3, g4, e1, e2, e3, e4, h1, h2, kA, w1, kB, r, encDoor, Int.natCast_nonneg, Int.toNat_natCast, List.getElem?_map, List.length_map, Try.ntmps79, Try.results79, efc79, fc79, ss, sd, evOp, evPlain, evVal, evMem, St.get, sliceOf, arrayOf, fieldsOf, normOf, norm, look, evVar, evFieldAddr, nameOf, St.alloc, St.drop, killOb, part, splice, depth, resultsV, ↓reduceIte, Nat.reduceBEq, Nat.reduceAdd, Nat.reduceSub, Nat.reduceMul, Nat.reduceEqDiff, Nat.reduceLeDiff, Nat.reduceLT, effOf, effMem, effVar, effLit, effMake, effApp, lend, evLit, evNil, freeze, evField, evIndexT, orNil, evSlice, placeOf, evMap, mapOf, keyOk, evFrame, closed, fixed, sameEs, wit, Option.isSome_some, St.with, wantedD, Array.size, te, einl, inls, efr]
            | false =>
              rw [h4] at kB
              have r := no2 (by simp [doorHit, h3, h4])
              simp (maxSteps := 1000000) (implicitDefEqProofs := false) only [evRegion_st hok, vI, g1, g2, g3, g4, e1, e2, e3, e4, h1, h2, kA, w1, kB, encDoor, Int.natCast_nonneg, Int.toNat_natCast, List.getElem?_map, List.length_map, ss, sd, evOp, evPlain, evVal, evMem, St.get, sliceOf, arrayOf, fieldsOf, normOf, norm, look, evVar, evFieldAddr, nameOf, St.alloc, St.drop, killOb, part, splice, depth, resultsV, ↓reduceIte, Nat.reduceBEq, Nat.reduceAdd, Nat.reduceSub, Nat.reduceMul, Nat.reduceEqDiff, Nat.reduceLeDiff, Nat.reduceLT, effOf, effMem, effVar, effLit, effMake, effApp, lend, evLit, evNil, freeze, evField, evIndexT, orNil, evSlice, placeOf, evMap, mapOf, keyOk, evFrame, closed, fixed, sameEs, wit, Option.isSome_some, St.with, wantedD, Array.size, te, einl, inls, efr]
              exact ⟨(), r⟩
        · have r := no2 (by simp [doorHit, h2])
          simp (maxSteps := 1000000) (implicitDefEqProofs := false) only [evRegion_st hok, vI, g1, g2, g3, g4, e1, e2, e3, e4, h1, h2, encDoor, Int.natCast_nonneg, Int.toNat_natCast, List.getElem?_map, List.length_map, ss, sd, evOp, evPlain, evVal, evMem, St.get, sliceOf, arrayOf, fieldsOf, normOf, norm, look, evVar, evFieldAddr, nameOf, St.alloc, St.drop, killOb, part, splice, depth, resultsV, ↓reduceIte, Nat.reduceBEq, Nat.reduceAdd, Nat.reduceSub, Nat.reduceMul, Nat.reduceEqDiff, Nat.reduceLeDiff, Nat.reduceLT, effOf, effMem, effVar, effLit, effMake, effApp, lend, evLit, evNil, freeze, evField, evIndexT, orNil, evSlice, placeOf, evMap, mapOf, keyOk, evFrame, closed, fixed, sameEs, wit, Option.isSome_some, St.with, wantedD, Array.size, te, einl, inls, efr]
          exact ⟨(), r⟩
      · have r := no2 (by simp [doorHit, h1])
        simp (maxSteps := 1000000) (implicitDefEqProofs := false) only [evRegion_st hok, vI, g1, g2, g3, g4, e1, e2, e3, e4, h1, encDoor, Int.natCast_nonneg, Int.toNat_natCast, List.getElem?_map, List.length_map, ss, sd, evOp, evPlain, evVal, evMem, St.get, sliceOf, arrayOf, fieldsOf, normOf, norm, look, evVar, evFieldAddr, nameOf, St.alloc, St.drop, killOb, part, splice, depth, resultsV, ↓reduceIte, Nat.reduceBEq, Nat.reduceAdd, Nat.reduceSub, Nat.reduceMul, Nat.reduceEqDiff, Nat.reduceLeDiff, Nat.reduceLT, effOf, effMem, effVar, effLit, effMake, effApp, lend, evLit, evNil, freeze, evField, evIndexT, orNil, evSlice, placeOf, evMap, mapOf, keyOk, evFrame, closed, fixed, sameEs, wit, Option.isSome_some, St.with, wantedD, Array.size, te, einl, inls, efr]
        exact ⟨(), r⟩
end Go.AM.D
