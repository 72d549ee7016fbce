/- A part of the proof: the texts ABandQ, ABandR, ABandS, one after another. No condition. -/
import Derived.Test.YtdipdaajicceoaaAR
set_option linter.unusedSimpArgs false

section
namespace Go.AM.A
open Go Go.Proofs

def encSp (p : Int × Int) : V := .agg [.int .i64 p.1, .int .i64 p.2]
theorem refFree_sp (l : List (Int × Int)) : refFreeL (l.map encSp) = true := refFreeL_map (fun _ => rfl) l
theorem plain_sp (l : List (Int × Int)) : plainL (l.map encSp) = true := plainL_map (fun _ => rfl) l
theorem isNew_sp (l : List (Int × Int)) : isNewL (l.map encSp) = true := isNewL_map (fun _ => rfl) l
theorem sized_sp (l : List (Int × Int)) : sized 2 (l.map encSp) = true := sized_map (fun p => ⟨[.int .i64 p.1, .int .i64 p.2], rfl, rfl⟩) l

structure Qu where
  least : Int
  most : Int
  shade : Int
  flaws : Int
def encQ (q : Qu) : V := .agg [.int .i64 q.least, .int .i64 q.most, .int .i64 q.shade, .int .i64 q.flaws]

def holds (q : Qu) (m : Mk) : Bool := inB m.thick q.least q.most && (q.shade == -1 || q.shade == m.shade) && bitsI .andNot .i64 m.flaw q.flaws == 0

theorem c50 (q : Qu) (m : Mk) : (orcω E X0).call 50 [encQ q, encMk m] = some (.bool (holds q m)) := by
  refine call_of rfl fn50 rfl ?_
  have h1 := c63 m.thick q.least q.most
  unfold holds
  generalize inB m.thick q.least q.most = b1 at *
  generalize hb : bitsI .andNot .i64 m.flaw q.flaws = z
  cases b1
  · simp (maxSteps := 1000000) (implicitDefEqProofs := false) only [Try.ntmps50, Try.results50, efc50, encQ, encMk, h1, ss, List.replicate, evOp, evPlain, evVal, evMem, St.eval, St.put, St.get, constV, List.set, lenV, sliceOf, arrayOf, fieldsOf, normOf, norm, firstRegion, look, maskFrom, evBin, evIndexS, evLoad, evVar, evStore, evFieldAddr, nameOf, St.alloc, St.drop, killL, kill, killAll, killObs, killOb, upd, cells?, part, retag, retagL, putIn, refFree, refFreeL, isNew, isNewL, Ty.isAgg, splice, idsL, ids, idsLL, reach, depth, St.dropL, resultsV, resultV, ↓reduceIte, Nat.reduceBEq, Nat.reduceAdd, Nat.reduceSub, Nat.reduceMul, Nat.reduceEqDiff, Nat.reduceLeDiff, Nat.reduceLT, effOf, effMem, effStore, effCall, effVar, effLit, effMake, effApp, Eff.ap, lend, evLit, evMake, evNil, freeze, onto, dropO, elemsV, sized, evCmp, eqT, eqG, minV, evUn, evField, evExtract, evIndexA, evIndexV, evSlice, optInt, fillV, placeOf, thawed, del, isNilSlice, plain, plainL, cellsJ, junkOk, St.with, setSlots, setObs, wantedD, seqOf, noRange, setAll, Array.size, te, einl, inls]
  · cases h2 : q.shade == -1
    · cases h3 : q.shade == m.shade
      · simp (maxSteps := 1000000) (implicitDefEqProofs := false) only [Try.ntmps50, Try.results50, efc50, encQ, encMk, h1, h2, h3, hb, ss, List.replicate, evOp, evPlain, evVal, evMem, St.eval, St.put, St.get, constV, List.set, lenV, sliceOf, arrayOf, fieldsOf, normOf, norm, firstRegion, look, maskFrom, evBin, evIndexS, evLoad, evVar, evStore, evFieldAddr, nameOf, St.alloc, St.drop, killL, kill, killAll, killObs, killOb, upd, cells?, part, retag, retagL, putIn, refFree, refFreeL, isNew, isNewL, Ty.isAgg, splice, idsL, ids, idsLL, reach, depth, St.dropL, resultsV, resultV, ↓reduceIte, Nat.reduceBEq, Nat.reduceAdd, Nat.reduceSub, Nat.reduceMul, Nat.reduceEqDiff, Nat.reduceLeDiff, Nat.reduceLT, effOf, effMem, effStore, effCall, effVar, effLit, effMake, effApp, Eff.ap, lend, evLit, evMake, evNil, freeze, onto, dropO, elemsV, sized, evCmp, eqT, eqG, minV, evUn, evField, evExtract, evIndexA, evIndexV, evSlice, optInt, fillV, placeOf, thawed, del, isNilSlice, plain, plainL, cellsJ, junkOk, St.with, setSlots, setObs, wantedD, seqOf, noRange, setAll, Array.size, te, einl, inls]
      · simp (maxSteps := 1000000) (implicitDefEqProofs := false) only [Try.ntmps50, Try.results50, efc50, encQ, encMk, h1, h2, h3, hb, ss, List.replicate, evOp, evPlain, evVal, evMem, St.eval, St.put, St.get, constV, List.set, lenV, sliceOf, arrayOf, fieldsOf, normOf, norm, firstRegion, look, maskFrom, evBin, evIndexS, evLoad, evVar, evStore, evFieldAddr, nameOf, St.alloc, St.drop, killL, kill, killAll, killObs, killOb, upd, cells?, part, retag, retagL, putIn, refFree, refFreeL, isNew, isNewL, Ty.isAgg, splice, idsL, ids, idsLL, reach, depth, St.dropL, resultsV, resultV, ↓reduceIte, Nat.reduceBEq, Nat.reduceAdd, Nat.reduceSub, Nat.reduceMul, Nat.reduceEqDiff, Nat.reduceLeDiff, Nat.reduceLT, effOf, effMem, effStore, effCall, effVar, effLit, effMake, effApp, Eff.ap, lend, evLit, evMake, evNil, freeze, onto, dropO, elemsV, sized, evCmp, eqT, eqG, minV, evUn, evField, evExtract, evIndexA, evIndexV, evSlice, optInt, fillV, placeOf, thawed, del, isNilSlice, plain, plainL, cellsJ, junkOk, St.with, setSlots, setObs, wantedD, seqOf, noRange, setAll, Array.size, te, einl, inls]
    · simp (maxSteps := 1000000) (implicitDefEqProofs := false) only [Try.ntmps50, Try.results50, efc50, encQ, encMk, h1, h2, hb, ss, List.replicate, evOp, evPlain, evVal, evMem, St.eval, St.put, St.get, constV, List.set, lenV, sliceOf, arrayOf, fieldsOf, normOf, norm, firstRegion, look, maskFrom, evBin, evIndexS, evLoad, evVar, evStore, evFieldAddr, nameOf, St.alloc, St.drop, killL, kill, killAll, killObs, killOb, upd, cells?, part, retag, retagL, putIn, refFree, refFreeL, isNew, isNewL, Ty.isAgg, splice, idsL, ids, idsLL, reach, depth, St.dropL, resultsV, resultV, ↓reduceIte, Nat.reduceBEq, Nat.reduceAdd, Nat.reduceSub, Nat.reduceMul, Nat.reduceEqDiff, Nat.reduceLeDiff, Nat.reduceLT, effOf, effMem, effStore, effCall, effVar, effLit, effMake, effApp, Eff.ap, lend, evLit, evMake, evNil, freeze, onto, dropO, elemsV, sized, evCmp, eqT, eqG, minV, evUn, evField, evExtract, evIndexA, evIndexV, evSlice, optInt, fillV, placeOf, thawed, del, isNilSlice, plain, plainL, cellsJ, junkOk, St.with, setSlots, setObs, wantedD, seqOf, noRange, setAll, Array.size, te, einl, inls]

theorem c51 (q : Qu) (m : Mk) : (orcω E X0).call 51 [encQ q, encMk m] = some (.bool (holds q m)) := by
  refine call_of rfl fn51 rfl ?_
  unfold holds inB
  generalize hb : bitsI .andNot .i64 m.flaw q.flaws = z
  by_cases a1 : q.least ≤ m.thick
  · by_cases a2 : m.thick ≤ q.most
    · cases h2 : q.shade == -1
      · cases h3 : q.shade == m.shade
        · simp (maxSteps := 1000000) (implicitDefEqProofs := false) only [Try.ntmps51, Try.results51, efc51, encQ, encMk, a1, a2, h2, h3, hb, ss, List.replicate, evOp, evPlain, evVal, evMem, St.eval, St.put, St.get, constV, List.set, lenV, sliceOf, arrayOf, fieldsOf, normOf, norm, firstRegion, look, maskFrom, evBin, evIndexS, evLoad, evVar, evStore, evFieldAddr, nameOf, St.alloc, St.drop, killL, kill, killAll, killObs, killOb, upd, cells?, part, retag, retagL, putIn, refFree, refFreeL, isNew, isNewL, Ty.isAgg, splice, idsL, ids, idsLL, reach, depth, St.dropL, resultsV, resultV, ↓reduceIte, Nat.reduceBEq, Nat.reduceAdd, Nat.reduceSub, Nat.reduceMul, Nat.reduceEqDiff, Nat.reduceLeDiff, Nat.reduceLT, effOf, effMem, effStore, effCall, effVar, effLit, effMake, effApp, Eff.ap, lend, evLit, evMake, evNil, freeze, onto, dropO, elemsV, sized, evCmp, eqT, eqG, minV, evUn, evField, evExtract, evIndexA, evIndexV, evSlice, optInt, fillV, placeOf, thawed, del, isNilSlice, plain, plainL, cellsJ, junkOk, St.with, setSlots, setObs, wantedD, seqOf, noRange, setAll, Array.size, te, einl, inls]
        · simp (maxSteps := 1000000) (implicitDefEqProofs := false) only [Try.ntmps51, Try.results51, efc51, encQ, encMk, a1, a2, h2, h3, hb, ss, List.replicate, evOp, evPlain, evVal, evMem, St.eval, St.put, St.get, constV, List.set, lenV, sliceOf, arrayOf, fieldsOf, normOf, norm, firstRegion, look, maskFrom, evBin, evIndexS, evLoad, evVar, evStore, evFieldAddr, nameOf, St.alloc, St.drop, killL, kill, killAll, killObs, killOb, upd, cells?, part, retag, retagL, putIn, refFree, refFreeL, isNew, isNewL, Ty.isAgg, splice, idsL, ids, idsLL, reach, depth, St.dropL, resultsV, resultV, ↓reduceIte, Nat.reduceBEq, Nat.reduceAdd, Nat.reduceSub, Nat.reduceMul, Nat.reduceEqDiff, Nat.reduceLeDiff, Nat.reduceLT, effOf, effMem, effStore, effCall, effVar, effLit, effMake, effApp, Eff.ap, lend, evLit, evMake, evNil, freeze, onto, dropO, elemsV, sized, evCmp, eqT, eqG, minV, evUn, evField, evExtract, evIndexA, evIndexV, evSlice, optInt, fillV, placeOf, thawed, del, isNilSlice, plain, plainL, cellsJ, junkOk, St.with, setSlots, setObs, wantedD, seqOf, noRange, setAll, Array.size, te, einl, inls]
      · simp (maxSteps := 1000000) (implicitDefEqProofs := false) only [Try.ntmps51, Try.results51, efc51, encQ, encMk, a1, a2, h2, hb, ss, List.replicate, evOp, evPlain, evVal, evMem, St.eval, St.put, St.get, constV, List.set, lenV, sliceOf, arrayOf, fieldsOf, normOf, norm, firstRegion, look, maskFrom, evBin, evIndexS, evLoad, evVar, evStore, evFieldAddr, nameOf, St.alloc, St.drop, killL, kill, killAll, killObs, killOb, upd, cells?, part, retag, retagL, putIn, refFree, refFreeL, isNew, isNewL, Ty.isAgg, splice, idsL, ids, idsLL, reach, depth, St.dropL, resultsV, resultV, ↓reduceIte, Nat.reduceBEq, Nat.reduceAdd, Nat.reduceSub, Nat.reduceMul, Nat.reduceEqDiff, Nat.reduceLeDiff, Nat.reduceLT, effOf, effMem, effStore, effCall, effVar, effLit, effMake, effApp, Eff.ap, lend, evLit, evMake, evNil, freeze, onto, dropO, elemsV, sized, evCmp, eqT, eqG, minV, evUn, evField, evExtract, evIndexA, evIndexV, evSlice, optInt, fillV, placeOf, thawed, del, isNilSlice, plain, plainL, cellsJ, junkOk, St.with, setSlots, setObs, wantedD, seqOf, noRange, setAll, Array.size, te, einl, inls]
    · simp (maxSteps := 1000000) (implicitDefEqProofs := false) only [Try.ntmps51, Try.results51, efc51, encQ, encMk, a1, a2, ss, List.replicate, evOp, evPlain, evVal, evMem, St.eval, St.put, St.get, constV, List.set, lenV, sliceOf, arrayOf, fieldsOf, normOf, norm, firstRegion, look, maskFrom, evBin, evIndexS, evLoad, evVar, evStore, evFieldAddr, nameOf, St.alloc, St.drop, killL, kill, killAll, killObs, killOb, upd, cells?, part, retag, retagL, putIn, refFree, refFreeL, isNew, isNewL, Ty.isAgg, splice, idsL, ids, idsLL, reach, depth, St.dropL, resultsV, resultV, ↓reduceIte, Nat.reduceBEq, Nat.reduceAdd, Nat.reduceSub, Nat.reduceMul, Nat.reduceEqDiff, Nat.reduceLeDiff, Nat.reduceLT, effOf, effMem, effStore, effCall, effVar, effLit, effMake, effApp, Eff.ap, lend, evLit, evMake, evNil, freeze, onto, dropO, elemsV, sized, evCmp, eqT, eqG, minV, evUn, evField, evExtract, evIndexA, evIndexV, evSlice, optInt, fillV, placeOf, thawed, del, isNilSlice, plain, plainL, cellsJ, junkOk, St.with, setSlots, setObs, wantedD, seqOf, noRange, setAll, Array.size, te, einl, inls]
  · simp (maxSteps := 1000000) (implicitDefEqProofs := false) only [Try.ntmps51, Try.results51, efc51, encQ, encMk, a1, ss, List.replicate, evOp, evPlain, evVal, evMem, St.eval, St.put, St.get, constV, List.set, lenV, sliceOf, arrayOf, fieldsOf, normOf, norm, firstRegion, look, maskFrom, evBin, evIndexS, evLoad, evVar, evStore, evFieldAddr, nameOf, St.alloc, St.drop, killL, kill, killAll, killObs, killOb, upd, cells?, part, retag, retagL, putIn, refFree, refFreeL, isNew, isNewL, Ty.isAgg, splice, idsL, ids, idsLL, reach, depth, St.dropL, resultsV, resultV, ↓reduceIte, Nat.reduceBEq, Nat.reduceAdd, Nat.reduceSub, Nat.reduceMul, Nat.reduceEqDiff, Nat.reduceLeDiff, Nat.reduceLT, effOf, effMem, effStore, effCall, effVar, effLit, effMake, effApp, Eff.ap, lend, evLit, evMake, evNil, freeze, onto, dropO, elemsV, sized, evCmp, eqT, eqG, minV, evUn, evField, evExtract, evIndexA, evIndexV, evSlice, optInt, fillV, placeOf, thawed, del, isNilSlice, plain, plainL, cellsJ, junkOk, St.with, setSlots, setObs, wantedD, seqOf, noRange, setAll, Array.size, te, einl, inls]

def pushS (acc : List (Int × Int)) (x : Int × Int) : List (Int × Int) := match acc.getLast? with
  | some s => if s.2 = x.1 then acc.set (acc.length - 1) (s.1, x.2) else acc ++ [x]
  | none => acc ++ [x]

theorem pushS_nil (x : Int × Int) : pushS [] x = [x] := rfl
theorem pushS_same (l : List (Int × Int)) (s x : Int × Int) (h : s.2 = x.1) : pushS (l ++ [s]) x = l ++ [(s.1, x.2)] := by
  unfold pushS
  simp [h, List.set_append]
theorem pushS_other (l : List (Int × Int)) (s x : Int × Int) (h : s.2 ≠ x.1) : pushS (l ++ [s]) x = l ++ [s, x] := by
  unfold pushS
  simp [h]
theorem pushS_len (acc : List (Int × Int)) (x : Int × Int) : (pushS acc x).length ≤ acc.length + 1 := by
  unfold pushS
  split
  · split <;> simp
  · simp

theorem c81 (s x : Int × Int) : (orcω E X0).call 81 [encSp s, encSp x] = some (.bool (s.2 == x.1)) := by
  refine call_of rfl fn81 rfl ?_
  simp (maxSteps := 1000000) (implicitDefEqProofs := false) only [Try.ntmps81, Try.results81, efc81, encSp, ss, List.replicate, evOp, evPlain, evVal, evMem, St.eval, St.put, St.get, constV, List.set, lenV, sliceOf, arrayOf, fieldsOf, normOf, norm, firstRegion, look, maskFrom, evBin, evIndexS, evLoad, evVar, evStore, evFieldAddr, nameOf, St.alloc, St.drop, killL, kill, killAll, killObs, killOb, upd, cells?, part, retag, retagL, putIn, refFree, refFreeL, isNew, isNewL, Ty.isAgg, splice, idsL, ids, idsLL, reach, depth, St.dropL, resultsV, resultV, ↓reduceIte, Nat.reduceBEq, Nat.reduceAdd, Nat.reduceSub, Nat.reduceMul, Nat.reduceEqDiff, Nat.reduceLeDiff, Nat.reduceLT, effOf, effMem, effStore, effCall, effVar, effLit, effMake, effApp, Eff.ap, lend, evLit, evMake, evNil, freeze, onto, dropO, elemsV, sized, evCmp, eqT, eqG, minV, evUn, evField, evExtract, evIndexA, evIndexV, evSlice, optInt, fillV, placeOf, thawed, del, isNilSlice, plain, plainL, cellsJ, junkOk, St.with, setSlots, setObs, wantedD, seqOf, noRange, setAll, Array.size, te, einl, inls]

theorem c82 (s x : Int × Int) : (orcω E X0).call 82 [encSp s, encSp x] = some (encSp (s.1, x.2)) := by
  refine call_of rfl fn82 rfl ?_
  simp (maxSteps := 1000000) (implicitDefEqProofs := false) only [Try.ntmps82, Try.results82, efc82, encSp, ss, List.replicate, evOp, evPlain, evVal, evMem, St.eval, St.put, St.get, constV, List.set, lenV, sliceOf, arrayOf, fieldsOf, normOf, norm, firstRegion, look, maskFrom, evBin, evIndexS, evLoad, evVar, evStore, evFieldAddr, nameOf, St.alloc, St.drop, killL, kill, killAll, killObs, killOb, upd, cells?, part, retag, retagL, putIn, refFree, refFreeL, isNew, isNewL, Ty.isAgg, splice, idsL, ids, idsLL, reach, depth, St.dropL, resultsV, resultV, ↓reduceIte, Nat.reduceBEq, Nat.reduceAdd, Nat.reduceSub, Nat.reduceMul, Nat.reduceEqDiff, Nat.reduceLeDiff, Nat.reduceLT, effOf, effMem, effStore, effCall, effVar, effLit, effMake, effApp, Eff.ap, lend, evLit, evMake, evNil, freeze, onto, dropO, elemsV, sized, evCmp, eqT, eqG, minV, evUn, evField, evExtract, evIndexA, evIndexV, evSlice, optInt, fillV, placeOf, thawed, del, isNilSlice, plain, plainL, cellsJ, junkOk, St.with, setSlots, setObs, wantedD, seqOf, noRange, setAll, Array.size, te, einl, inls]

theorem foldl_snoc {α β : Type} (f : β → α → β) (b : β) (l : List α) (x : α) : (l ++ [x]).foldl f b = f (l.foldl f b) x := by simp

theorem foldl_pushS_len (l : List (Int × Int)) : (l.foldl pushS []).length ≤ l.length := by
  have : ∀ (l acc : List (Int × Int)), (l.foldl pushS acc).length ≤ acc.length + l.length := by
    intro l
    induction l with
    | nil => intro acc; simp
    | cons x l ih =>
      intro acc
      have h1 := ih (pushS acc x)
      have h2 := pushS_len acc x
      simp only [List.foldl_cons, List.length_cons]; omega
  simpa using this l []

theorem okT80 : okCode (Try.f80.body.getD .skip) = true := by decide +kernel

theorem c80 (xs : List (Int × Int)) (hn : xs.length ≤ 1000000) : (orcω E X0).call 80 [.sl false (xs.map encSp), .clo 81 [] [], .clo 82 [] []] = some (.sl true ((xs.foldl pushS []).map encSp)) := by
  refine call_of rfl fn80 rfl ?_
  have hok := okT80
  simp only [Try.f80, Option.getD_some, okCode, Bool.and_eq_true, Bool.and_true, Bool.true_and] at hok
  simp (maxSteps := 1000000) (implicitDefEqProofs := false) only [Try.ntmps80, Try.results80, efc80, fc80, ss, List.replicate, evOp, evPlain, evVal, evMem, St.eval, St.put, St.get, constV, List.set, lenV, sliceOf, arrayOf, fieldsOf, normOf, norm, firstRegion, look, maskFrom, evBin, evIndexS, evLoad, evVar, evStore, evFieldAddr, nameOf, St.alloc, St.drop, killL, kill, killAll, killObs, killOb, upd, cells?, part, retag, retagL, putIn, refFree, refFreeL, isNew, isNewL, Ty.isAgg, splice, idsL, ids, idsLL, reach, depth, St.dropL, resultsV, resultV, ↓reduceIte, Nat.reduceBEq, Nat.reduceAdd, Nat.reduceSub, Nat.reduceMul, Nat.reduceEqDiff, Nat.reduceLeDiff, Nat.reduceLT, effOf, effMem, effStore, effCall, effVar, effLit, effMake, effApp, Eff.ap, lend, evLit, evMake, evNil, freeze, onto, dropO, elemsV, sized, evCmp, eqT, eqG, minV, evUn, evField, evExtract, evIndexA, evIndexV, evSlice, optInt, fillV, placeOf, thawed, del, isNilSlice, plain, plainL, cellsJ, junkOk, St.with, setSlots, setObs, wantedD, seqOf, noRange, setAll, Array.size, te, einl, inls]
  generalize hr : loopAt _ _ _ _ _ _ = r; revert r
  refine loop_list xs (fun pre _ => [(7, .own 7 0 (pre.foldl pushS []).length), (13, .int .i64 pre.length)]) (fun pre _ => [(7, { es := 2, flat := true, t := true, app := true, elems := (pre.foldl pushS []).map encSp })]) (fun _ (_ : Unit) => True) () (by omega)
    (by simp (maxSteps := 1000000) (implicitDefEqProofs := false) only [List.foldl_nil, ss, List.replicate, evOp, evPlain, evVal, evMem, St.eval, St.put, St.get, constV, List.set, lenV, sliceOf, arrayOf, fieldsOf, normOf, norm, firstRegion, look, maskFrom, evBin, evIndexS, evLoad, evVar, evStore, evFieldAddr, nameOf, St.alloc, St.drop, killL, kill, killAll, killObs, killOb, upd, cells?, part, retag, retagL, putIn, refFree, refFreeL, isNew, isNewL, Ty.isAgg, splice, idsL, ids, idsLL, reach, depth, St.dropL, resultsV, resultV, ↓reduceIte, Nat.reduceBEq, Nat.reduceAdd, Nat.reduceSub, Nat.reduceMul, Nat.reduceEqDiff, Nat.reduceLeDiff, Nat.reduceLT, effOf, effMem, effStore, effCall, effVar, effLit, effMake, effApp, Eff.ap, lend, evLit, evMake, evNil, freeze, onto, dropO, elemsV, sized, evCmp, eqT, eqG, minV, evUn, evField, evExtract, evIndexA, evIndexV, evSlice, optInt, fillV, placeOf, thawed, del, isNilSlice, plain, plainL, cellsJ, junkOk, St.with, setSlots, setObs, wantedD, seqOf, noRange, setAll, Array.size, te, einl, inls]) trivial (fun _ _ => ?_) (fun pre x post _ hp _ g1 g2 g3 g4 => ?_)
  · simp (maxSteps := 1000000) (implicitDefEqProofs := false) only [Int.lt_irrefl, Try.ntmps80, Try.results80, efc80, fc80, ss, List.replicate, evOp, evPlain, evVal, evMem, St.eval, St.put, St.get, constV, List.set, lenV, sliceOf, arrayOf, fieldsOf, normOf, norm, firstRegion, look, maskFrom, evBin, evIndexS, evLoad, evVar, evStore, evFieldAddr, nameOf, St.alloc, St.drop, killL, kill, killAll, killObs, killOb, upd, cells?, part, retag, retagL, putIn, refFree, refFreeL, isNew, isNewL, Ty.isAgg, splice, idsL, ids, idsLL, reach, depth, St.dropL, resultsV, resultV, ↓reduceIte, Nat.reduceBEq, Nat.reduceAdd, Nat.reduceSub, Nat.reduceMul, Nat.reduceEqDiff, Nat.reduceLeDiff, Nat.reduceLT, effOf, effMem, effStore, effCall, effVar, effLit, effMake, effApp, Eff.ap, lend, evLit, evMake, evNil, freeze, onto, dropO, elemsV, sized, evCmp, eqT, eqG, minV, evUn, evField, evExtract, evIndexA, evIndexV, evSlice, optInt, fillV, placeOf, thawed, del, isNilSlice, plain, plainL, cellsJ, junkOk, St.with, setSlots, setObs, wantedD, seqOf, noRange, setAll, Array.size, te, einl, inls]
  · have e1 := foldl_snoc pushS [] pre x
    have e2 := foldl_pushS_len pre
    rw [e1]
    generalize pre.foldl pushS [] = acc at *
    have hroom : roomy (acc.length + 1) 16 = true := by simp [roomy]; omega
    have hroom1 : roomy 1 16 = true := by simp [roomy]
    have hbig : acc.length + 1 ≤ 4294967296 := by omega
    rcases snoc_cases acc with rfl | ⟨l, s, rfl⟩
    · rw [pushS_nil]
      simp (maxSteps := 1000000) (implicitDefEqProofs := false) only [g1, g2, g3, Int.natCast_nonneg, Int.toNat_natCast, List.getElem?_map, encSp, hroom1, hok, evRegion_st, Int.lt_irrefl, g4, ss, List.replicate, evOp, evPlain, evVal, evMem, St.eval, St.put, St.get, constV, List.set, lenV, sliceOf, arrayOf, fieldsOf, normOf, norm, firstRegion, look, maskFrom, evBin, evIndexS, evLoad, evVar, evStore, evFieldAddr, nameOf, St.alloc, St.drop, killL, kill, killAll, killObs, killOb, upd, cells?, part, retag, retagL, putIn, refFree, refFreeL, isNew, isNewL, Ty.isAgg, splice, idsL, ids, idsLL, reach, depth, St.dropL, resultsV, resultV, ↓reduceIte, Nat.reduceBEq, Nat.reduceAdd, Nat.reduceSub, Nat.reduceMul, Nat.reduceEqDiff, Nat.reduceLeDiff, Nat.reduceLT, effOf, effMem, effStore, effCall, effVar, effLit, effMake, effApp, Eff.ap, lend, evLit, evMake, evNil, freeze, onto, dropO, elemsV, sized, evCmp, eqT, eqG, minV, evUn, evField, evExtract, evIndexA, evIndexV, evSlice, optInt, fillV, placeOf, thawed, del, isNilSlice, plain, plainL, cellsJ, junkOk, St.with, setSlots, setObs, wantedD, seqOf, noRange, setAll, Array.size, te, einl, inls]
      (first | exact ⟨(), trivial⟩ | refine ⟨(), ?_, trivial⟩ | skip)
    · have a1 : (0 : Int) < (l ++ [s]).length := by simp <;> omega
      have a2 : IntKind.i64.wrap (((l ++ [s]).length : Int) - 1) = (l.length : Int) := by rw [wrap_in (by simp at hbig ⊢; omega)]; simp
      have a3 : (l.length : Int) < (l ++ [s]).length := by simp <;> omega
      have a4 : (l ++ [s])[l.length]? = some s := by simp
      have k2 := c82 s x
      simp only [encSp] at k2
      by_cases hs : s.2 = x.1
      · rw [pushS_same _ _ _ hs]
        have k1 : (orcω E X0).call 81 [encSp s, encSp x] = some (.bool true) := by rw [c81, hs, beq_self_eq_true]
        simp only [encSp] at k1
        simp (maxSteps := 1000000) (implicitDefEqProofs := false) only [g1, g2, g3, Int.natCast_nonneg, Int.toNat_natCast, List.getElem?_map, encSp, hroom, hbig, hok, evRegion_st, a1, a2, a3, a4, k1, k2, ss, List.replicate, evOp, evPlain, evVal, evMem, St.eval, St.put, St.get, constV, List.set, lenV, sliceOf, arrayOf, fieldsOf, normOf, norm, firstRegion, look, maskFrom, evBin, evIndexS, evLoad, evVar, evStore, evFieldAddr, nameOf, St.alloc, St.drop, killL, kill, killAll, killObs, killOb, upd, cells?, part, retag, retagL, putIn, refFree, refFreeL, isNew, isNewL, Ty.isAgg, splice, idsL, ids, idsLL, reach, depth, St.dropL, resultsV, resultV, ↓reduceIte, Nat.reduceBEq, Nat.reduceAdd, Nat.reduceSub, Nat.reduceMul, Nat.reduceEqDiff, Nat.reduceLeDiff, Nat.reduceLT, effOf, effMem, effStore, effCall, effVar, effLit, effMake, effApp, Eff.ap, lend, evLit, evMake, evNil, freeze, onto, dropO, elemsV, sized, evCmp, eqT, eqG, minV, evUn, evField, evExtract, evIndexA, evIndexV, evSlice, optInt, fillV, placeOf, thawed, del, isNilSlice, plain, plainL, cellsJ, junkOk, St.with, setSlots, setObs, wantedD, seqOf, noRange, setAll, Array.size, te, einl, inls]
        (first | exact ⟨(), trivial⟩ | refine ⟨(), ?_, trivial⟩ | skip)
        rw [g4]
        simp [encSp, List.set_append]
      · rw [pushS_other _ _ _ hs]
        have k1 : (orcω E X0).call 81 [encSp s, encSp x] = some (.bool false) := by rw [c81, beq_eq_false_iff_ne.2 hs]
        simp only [encSp] at k1
        simp (maxSteps := 1000000) (implicitDefEqProofs := false) only [g1, g2, g3, Int.natCast_nonneg, Int.toNat_natCast, List.getElem?_map, encSp, hroom, hbig, hok, evRegion_st, a1, a2, a3, a4, k1, k2, ss, List.replicate, evOp, evPlain, evVal, evMem, St.eval, St.put, St.get, constV, List.set, lenV, sliceOf, arrayOf, fieldsOf, normOf, norm, firstRegion, look, maskFrom, evBin, evIndexS, evLoad, evVar, evStore, evFieldAddr, nameOf, St.alloc, St.drop, killL, kill, killAll, killObs, killOb, upd, cells?, part, retag, retagL, putIn, refFree, refFreeL, isNew, isNewL, Ty.isAgg, splice, idsL, ids, idsLL, reach, depth, St.dropL, resultsV, resultV, ↓reduceIte, Nat.reduceBEq, Nat.reduceAdd, Nat.reduceSub, Nat.reduceMul, Nat.reduceEqDiff, Nat.reduceLeDiff, Nat.reduceLT, effOf, effMem, effStore, effCall, effVar, effLit, effMake, effApp, Eff.ap, lend, evLit, evMake, evNil, freeze, onto, dropO, elemsV, sized, evCmp, eqT, eqG, minV, evUn, evField, evExtract, evIndexA, evIndexV, evSlice, optInt, fillV, placeOf, thawed, del, isNilSlice, plain, plainL, cellsJ, junkOk, St.with, setSlots, setObs, wantedD, seqOf, noRange, setAll, Array.size, te, einl, inls]
        (first | exact ⟨(), trivial⟩ | refine ⟨(), ?_, trivial⟩ | skip)
        rw [g4]
        simp [encSp]

/-- The spans of the runs that meet a query. -/
def spL (q : Qu) : Int → List Run → List (Int × Int)
  | _, [] => []
  | a, r :: rs => (if holds q r.mk' = true then [(a, a + r.len)] else []) ++ spL q (a + r.len) rs

theorem spL_snoc (q : Qu) (r : Run) : ∀ (pre : List Run) (a : Int), spL q a (pre ++ [r]) = spL q a pre ++ (if holds q r.mk' = true then [(a + total pre, a + total pre + r.len)] else [])
  | [], a => by simp [spL, total]
  | x :: pre, a => by
    simp only [List.cons_append, spL, spL_snoc q r pre, total_cons, List.append_assoc, Int.add_assoc]

theorem spL_len (q : Qu) : ∀ (rs : List Run) (a : Int), (spL q a rs).length ≤ rs.length
  | [], a => Nat.le_refl _
  | x :: rs, a => by
    have := spL_len q rs (a + x.len)
    simp only [spL, List.length_append, List.length_cons]
    split <;> simp <;> omega

def whereM (rs : List Run) (q : Qu) : List (Int × Int) × Int := if validate rs = 0 then ((spL q 0 rs).foldl pushS [], 0) else ([], validate rs)
def encWh (x : List (Int × Int) × Int) : V := .tup [.sl true (x.1.map encSp), .int .i64 x.2]

def whOb (q : Qu) (out : List (Int × Int)) : List (Nat × Ob) := match out with
  | [] => [(3, { es := 4, flat := true, t := true, app := false, elems := [encQ q] }), (7, { es := 1, flat := true, t := true, app := false, elems := [.emp] })]
  | _ => [(3, { es := 4, flat := true, t := true, app := false, elems := [encQ q] }), (7, { es := 1, flat := false, t := true, app := false, elems := [.own 31 0 out.length] }), (31, { es := 2, flat := true, t := true, app := true, elems := out.map encSp })]

theorem whOb_ne {q : Qu} {out : List (Int × Int)} (h : out ≠ []) : whOb q out = [(3, { es := 4, flat := true, t := true, app := false, elems := [encQ q] }), (7, { es := 1, flat := false, t := true, app := false, elems := [.own 31 0 out.length] }), (31, { es := 2, flat := true, t := true, app := true, elems := out.map encSp })] := by
  cases out with
  | nil => exact absurd rfl h
  | cons _ _ => rfl

theorem c44 (rs : List Run) (q : Qu) (hn : rs.length ≤ 100000) : (orcω E X0).call 44 [.sl false (rs.map encRun), encQ q] = some (encWh (whereM rs q)) := by
  refine call_of rfl fn44 rfl ?_
  have h1 := c23 false rs (by omega)
  by_cases hv : validate rs = 0
  · have ho := (valid_okay hv).1
    rw [hv] at h1
    have h3 := c73 rs
    have h4 := eseq_each false false rs (by omega)
    simp (maxSteps := 1000000) (implicitDefEqProofs := false) only [Try.ntmps44, Try.results44, efc44, h1, h3, h4, encQ, bne_self_eq_false, ss, List.replicate, evOp, evPlain, evVal, evMem, St.eval, St.put, St.get, constV, List.set, lenV, sliceOf, arrayOf, fieldsOf, normOf, norm, firstRegion, look, maskFrom, evBin, evIndexS, evLoad, evVar, evStore, evFieldAddr, nameOf, St.alloc, St.drop, killL, kill, killAll, killObs, killOb, upd, cells?, part, retag, retagL, putIn, refFree, refFreeL, isNew, isNewL, Ty.isAgg, splice, idsL, ids, idsLL, reach, depth, St.dropL, resultsV, resultV, ↓reduceIte, Nat.reduceBEq, Nat.reduceAdd, Nat.reduceSub, Nat.reduceMul, Nat.reduceEqDiff, Nat.reduceLeDiff, Nat.reduceLT, effOf, effMem, effStore, effCall, effVar, effLit, effMake, effApp, Eff.ap, lend, evLit, evMake, evNil, freeze, onto, dropO, elemsV, sized, evCmp, eqT, eqG, minV, evUn, evField, evExtract, evIndexA, evIndexV, evSlice, optInt, fillV, placeOf, thawed, del, isNilSlice, plain, plainL, cellsJ, junkOk, St.with, setSlots, setObs, wantedD, seqOf, noRange, setAll, Array.size, te, einl, inls]
    simp only [whereM, if_pos hv]
    generalize hr : popped (roundsIn _ _ _ _ _ _) = r; revert r
    refine rounds_runs rs (fun pre _ => whOb q (spL q 0 pre)) (fun _ (_ : Unit) => True) () (by simp (maxSteps := 1000000) (implicitDefEqProofs := false) only [spL, whOb, encQ, ss, List.replicate, evOp, evPlain, evVal, evMem, St.eval, St.put, St.get, constV, List.set, lenV, sliceOf, arrayOf, fieldsOf, normOf, norm, firstRegion, look, maskFrom, evBin, evIndexS, evLoad, evVar, evStore, evFieldAddr, nameOf, St.alloc, St.drop, killL, kill, killAll, killObs, killOb, upd, cells?, part, retag, retagL, putIn, refFree, refFreeL, isNew, isNewL, Ty.isAgg, splice, idsL, ids, idsLL, reach, depth, St.dropL, resultsV, resultV, ↓reduceIte, Nat.reduceBEq, Nat.reduceAdd, Nat.reduceSub, Nat.reduceMul, Nat.reduceEqDiff, Nat.reduceLeDiff, Nat.reduceLT, effOf, effMem, effStore, effCall, effVar, effLit, effMake, effApp, Eff.ap, lend, evLit, evMake, evNil, freeze, onto, dropO, elemsV, sized, evCmp, eqT, eqG, minV, evUn, evField, evExtract, evIndexA, evIndexV, evSlice, optInt, fillV, placeOf, thawed, del, isNilSlice, plain, plainL, cellsJ, junkOk, St.with, setSlots, setObs, wantedD, seqOf, noRange, setAll, Array.size, te, einl, inls]) trivial (fun _ _ => ?_) (fun pre r post _ hp _ => ?_)
    · have l1 := spL_len q rs 0
      have h5 := c80 (spL q 0 rs) (by omega)
      cases hc : spL q 0 rs with
      | nil =>
        rw [hc] at h5
        simp only [List.map_nil] at h5
        simp (maxSteps := 1000000) (implicitDefEqProofs := false) only [whOb, Try.ntmps44, Try.results44, efc44, encQ, h5, ss, List.replicate, evOp, evPlain, evVal, evMem, St.eval, St.put, St.get, constV, List.set, lenV, sliceOf, arrayOf, fieldsOf, normOf, norm, firstRegion, look, maskFrom, evBin, evIndexS, evLoad, evVar, evStore, evFieldAddr, nameOf, St.alloc, St.drop, killL, kill, killAll, killObs, killOb, upd, cells?, part, retag, retagL, putIn, refFree, refFreeL, isNew, isNewL, Ty.isAgg, splice, idsL, ids, idsLL, reach, depth, St.dropL, resultsV, resultV, ↓reduceIte, Nat.reduceBEq, Nat.reduceAdd, Nat.reduceSub, Nat.reduceMul, Nat.reduceEqDiff, Nat.reduceLeDiff, Nat.reduceLT, effOf, effMem, effStore, effCall, effVar, effLit, effMake, effApp, Eff.ap, lend, evLit, evMake, evNil, freeze, onto, dropO, elemsV, sized, evCmp, eqT, eqG, minV, evUn, evField, evExtract, evIndexA, evIndexV, evSlice, optInt, fillV, placeOf, thawed, del, isNilSlice, plain, plainL, cellsJ, junkOk, St.with, setSlots, setObs, wantedD, seqOf, noRange, setAll, Array.size, te, einl, inls]
        try simp [encWh, hc]
      | cons x l =>
        rw [hc] at h5
        simp only [List.map_cons] at h5
        have h6 : ((x :: l).map encSp).take (x :: l).length = (x :: l).map encSp := List.take_of_length_le (by simp)
        simp only [List.map_cons, List.length_cons] at h6
        simp (maxSteps := 1000000) (implicitDefEqProofs := false) only [whOb, Try.ntmps44, Try.results44, efc44, encQ, h5, h6, ss, List.replicate, evOp, evPlain, evVal, evMem, St.eval, St.put, St.get, constV, List.set, lenV, sliceOf, arrayOf, fieldsOf, normOf, norm, firstRegion, look, maskFrom, evBin, evIndexS, evLoad, evVar, evStore, evFieldAddr, nameOf, St.alloc, St.drop, killL, kill, killAll, killObs, killOb, upd, cells?, part, retag, retagL, putIn, refFree, refFreeL, isNew, isNewL, Ty.isAgg, splice, idsL, ids, idsLL, reach, depth, St.dropL, resultsV, resultV, ↓reduceIte, Nat.reduceBEq, Nat.reduceAdd, Nat.reduceSub, Nat.reduceMul, Nat.reduceEqDiff, Nat.reduceLeDiff, Nat.reduceLT, effOf, effMem, effStore, effCall, effVar, effLit, effMake, effApp, Eff.ap, lend, evLit, evMake, evNil, freeze, onto, dropO, elemsV, sized, evCmp, eqT, eqG, minV, evUn, evField, evExtract, evIndexA, evIndexV, evSlice, optInt, fillV, placeOf, thawed, del, isNilSlice, plain, plainL, cellsJ, junkOk, St.with, setSlots, setObs, wantedD, seqOf, noRange, setAll, Array.size, te, einl, inls]
        try simp [encWh, hc]
    · have h5 := okay_app (hp ▸ ho)
      have h6 := ln_total h5.1
      have h7 := okay_nonneg h5.1
      have h8 := okay_nonneg h5.2
      have h9 := okay_lens ho r (by rw [hp]; simp)
      have h10 := ho.2
      rw [hp, total_app] at h10
      have e2 := spL_snoc q r pre 0
      simp only [Int.zero_add] at e2
      have l1 := spL_len q pre 0
      have l2 : pre.length ≤ rs.length := by rw [hp]; simp
      have k1 := c50 q r.mk'
      simp only [encQ, encMk, Run.mk'] at k1
      rw [e2]
      generalize spL q 0 pre = out at *
      have hroom1 : roomy 1 16 = true := by simp [roomy]
      have hroom : roomy (out.length + 1) 16 = true := by simp [roomy]; omega
      have hbig : out.length + 1 ≤ 4294967296 := by omega
      cases hb : holds q r.mk' with
      | false =>
        simp only [Run.mk'] at hb
        rw [hb] at k1
        rcases snoc_cases out with rfl | ⟨l', x', rfl⟩
        · simp only [whOb]
          simp (maxSteps := 1000000) (implicitDefEqProofs := false) (disch := omega) only [h6, encQ, encRun, k1, wrap_in, ss, List.replicate, evOp, evPlain, evVal, evMem, St.eval, St.put, St.get, constV, List.set, lenV, sliceOf, arrayOf, fieldsOf, normOf, norm, firstRegion, look, maskFrom, evBin, evIndexS, evLoad, evVar, evStore, evFieldAddr, nameOf, St.alloc, St.drop, killL, kill, killAll, killObs, killOb, upd, cells?, part, retag, retagL, putIn, refFree, refFreeL, isNew, isNewL, Ty.isAgg, splice, idsL, ids, idsLL, reach, depth, St.dropL, resultsV, resultV, ↓reduceIte, Nat.reduceBEq, Nat.reduceAdd, Nat.reduceSub, Nat.reduceMul, Nat.reduceEqDiff, Nat.reduceLeDiff, Nat.reduceLT, effOf, effMem, effStore, effCall, effVar, effLit, effMake, effApp, Eff.ap, lend, evLit, evMake, evNil, freeze, onto, dropO, elemsV, sized, evCmp, eqT, eqG, minV, evUn, evField, evExtract, evIndexA, evIndexV, evSlice, optInt, fillV, placeOf, thawed, del, isNilSlice, plain, plainL, cellsJ, junkOk, St.with, setSlots, setObs, wantedD, seqOf, noRange, setAll, Array.size, te, einl, inls]
          (first | exact ⟨(), trivial⟩ | refine ⟨(), ?_, trivial⟩ | skip)
          try simp [encQ, whOb]
        · rw [whOb_ne (by simp)]
          simp (maxSteps := 1000000) (implicitDefEqProofs := false) (disch := omega) only [h6, encQ, encRun, k1, wrap_in, ss, List.replicate, evOp, evPlain, evVal, evMem, St.eval, St.put, St.get, constV, List.set, lenV, sliceOf, arrayOf, fieldsOf, normOf, norm, firstRegion, look, maskFrom, evBin, evIndexS, evLoad, evVar, evStore, evFieldAddr, nameOf, St.alloc, St.drop, killL, kill, killAll, killObs, killOb, upd, cells?, part, retag, retagL, putIn, refFree, refFreeL, isNew, isNewL, Ty.isAgg, splice, idsL, ids, idsLL, reach, depth, St.dropL, resultsV, resultV, ↓reduceIte, Nat.reduceBEq, Nat.reduceAdd, Nat.reduceSub, Nat.reduceMul, Nat.reduceEqDiff, Nat.reduceLeDiff, Nat.reduceLT, effOf, effMem, effStore, effCall, effVar, effLit, effMake, effApp, Eff.ap, lend, evLit, evMake, evNil, freeze, onto, dropO, elemsV, sized, evCmp, eqT, eqG, minV, evUn, evField, evExtract, evIndexA, evIndexV, evSlice, optInt, fillV, placeOf, thawed, del, isNilSlice, plain, plainL, cellsJ, junkOk, St.with, setSlots, setObs, wantedD, seqOf, noRange, setAll, Array.size, te, einl, inls]
          (first | exact ⟨(), trivial⟩ | refine ⟨(), ?_, trivial⟩ | skip)
          try simp
          try (rw [whOb_ne (by simp)]; simp [encQ])
      | true =>
        simp only [Run.mk'] at hb
        rw [hb] at k1
        rcases snoc_cases out with rfl | ⟨l', x', rfl⟩
        · simp only [whOb]
          simp (maxSteps := 1000000) (implicitDefEqProofs := false) (disch := omega) only [h6, encQ, encRun, k1, hroom1, wrap_in, ss, List.replicate, evOp, evPlain, evVal, evMem, St.eval, St.put, St.get, constV, List.set, lenV, sliceOf, arrayOf, fieldsOf, normOf, norm, firstRegion, look, maskFrom, evBin, evIndexS, evLoad, evVar, evStore, evFieldAddr, nameOf, St.alloc, St.drop, killL, kill, killAll, killObs, killOb, upd, cells?, part, retag, retagL, putIn, refFree, refFreeL, isNew, isNewL, Ty.isAgg, splice, idsL, ids, idsLL, reach, depth, St.dropL, resultsV, resultV, ↓reduceIte, Nat.reduceBEq, Nat.reduceAdd, Nat.reduceSub, Nat.reduceMul, Nat.reduceEqDiff, Nat.reduceLeDiff, Nat.reduceLT, effOf, effMem, effStore, effCall, effVar, effLit, effMake, effApp, Eff.ap, lend, evLit, evMake, evNil, freeze, onto, dropO, elemsV, sized, evCmp, eqT, eqG, minV, evUn, evField, evExtract, evIndexA, evIndexV, evSlice, optInt, fillV, placeOf, thawed, del, isNilSlice, plain, plainL, cellsJ, junkOk, St.with, setSlots, setObs, wantedD, seqOf, noRange, setAll, Array.size, te, einl, inls]
          (first | exact ⟨(), trivial⟩ | refine ⟨(), ?_, trivial⟩ | skip)
          try simp [encQ, whOb, encSp]
        · rw [whOb_ne (by simp)]
          simp (maxSteps := 1000000) (implicitDefEqProofs := false) (disch := omega) only [h6, encQ, encRun, k1, hroom, hbig, wrap_in, ss, List.replicate, evOp, evPlain, evVal, evMem, St.eval, St.put, St.get, constV, List.set, lenV, sliceOf, arrayOf, fieldsOf, normOf, norm, firstRegion, look, maskFrom, evBin, evIndexS, evLoad, evVar, evStore, evFieldAddr, nameOf, St.alloc, St.drop, killL, kill, killAll, killObs, killOb, upd, cells?, part, retag, retagL, putIn, refFree, refFreeL, isNew, isNewL, Ty.isAgg, splice, idsL, ids, idsLL, reach, depth, St.dropL, resultsV, resultV, ↓reduceIte, Nat.reduceBEq, Nat.reduceAdd, Nat.reduceSub, Nat.reduceMul, Nat.reduceEqDiff, Nat.reduceLeDiff, Nat.reduceLT, effOf, effMem, effStore, effCall, effVar, effLit, effMake, effApp, Eff.ap, lend, evLit, evMake, evNil, freeze, onto, dropO, elemsV, sized, evCmp, eqT, eqG, minV, evUn, evField, evExtract, evIndexA, evIndexV, evSlice, optInt, fillV, placeOf, thawed, del, isNilSlice, plain, plainL, cellsJ, junkOk, St.with, setSlots, setObs, wantedD, seqOf, noRange, setAll, Array.size, te, einl, inls]
          (first | exact ⟨(), trivial⟩ | refine ⟨(), ?_, trivial⟩ | skip)
          try simp [encSp]
          try (rw [whOb_ne (by simp)]; simp [encQ, encSp])
  · have hv' : (validate rs != 0) = true := by simp [hv]
    simp (maxSteps := 1000000) (implicitDefEqProofs := false) only [Try.ntmps44, Try.results44, efc44, h1, hv', encQ, ss, List.replicate, evOp, evPlain, evVal, evMem, St.eval, St.put, St.get, constV, List.set, lenV, sliceOf, arrayOf, fieldsOf, normOf, norm, firstRegion, look, maskFrom, evBin, evIndexS, evLoad, evVar, evStore, evFieldAddr, nameOf, St.alloc, St.drop, killL, kill, killAll, killObs, killOb, upd, cells?, part, retag, retagL, putIn, refFree, refFreeL, isNew, isNewL, Ty.isAgg, splice, idsL, ids, idsLL, reach, depth, St.dropL, resultsV, resultV, ↓reduceIte, Nat.reduceBEq, Nat.reduceAdd, Nat.reduceSub, Nat.reduceMul, Nat.reduceEqDiff, Nat.reduceLeDiff, Nat.reduceLT, effOf, effMem, effStore, effCall, effVar, effLit, effMake, effApp, Eff.ap, lend, evLit, evMake, evNil, freeze, onto, dropO, elemsV, sized, evCmp, eqT, eqG, minV, evUn, evField, evExtract, evIndexA, evIndexV, evSlice, optInt, fillV, placeOf, thawed, del, isNilSlice, plain, plainL, cellsJ, junkOk, St.with, setSlots, setObs, wantedD, seqOf, noRange, setAll, Array.size, te, einl, inls]
    simp [encWh, whereM, hv]

end Go.AM.A
end

section
namespace Go.AM.A
open Go Go.Proofs

def stepS (q : Qu) (acc : List (Int × Int)) (a : Int) (r : Run) : List (Int × Int) := if holds q r.mk' = true then pushS acc (a, a + r.len) else acc

theorem spL_push (q : Qu) (pre : List Run) (r : Run) : (spL q 0 (pre ++ [r])).foldl pushS [] = stepS q ((spL q 0 pre).foldl pushS []) (total pre) r := by
  rw [spL_snoc, Int.zero_add, List.foldl_append]
  unfold stepS
  split <;> simp

theorem okT45 : okCode (Try.f45.body.getD .skip) = true := by decide +kernel

set_option maxHeartbeats 1000000 in
theorem c45 (rs : List Run) (q : Qu) (hn : rs.length ≤ 100000) : (orcω E X0).call 45 [.sl false (rs.map encRun), encQ q] = some (encWh (whereM rs q)) := by
  refine call_of rfl fn45 rfl ?_
  have hok := okT45
  simp only [Try.f45, Option.getD_some, okCode, Bool.and_eq_true, Bool.and_true, Bool.true_and] at hok
  have h1 := c24 false rs (by omega)
  by_cases hv : validate rs = 0
  · have ho := (valid_okay hv).1
    rw [hv] at h1
    simp (maxSteps := 1000000) (implicitDefEqProofs := false) only [Try.ntmps45, Try.results45, efc45, fc45, h1, encQ, bne_self_eq_false, ss, List.replicate, evOp, evPlain, evVal, evMem, St.eval, St.put, St.get, constV, List.set, lenV, sliceOf, arrayOf, fieldsOf, normOf, norm, firstRegion, look, maskFrom, evBin, evIndexS, evLoad, evVar, evStore, evFieldAddr, nameOf, St.alloc, St.drop, killL, kill, killAll, killObs, killOb, upd, cells?, part, retag, retagL, putIn, refFree, refFreeL, isNew, isNewL, Ty.isAgg, splice, idsL, ids, idsLL, reach, depth, St.dropL, resultsV, resultV, ↓reduceIte, Nat.reduceBEq, Nat.reduceAdd, Nat.reduceSub, Nat.reduceMul, Nat.reduceEqDiff, Nat.reduceLeDiff, Nat.reduceLT, effOf, effMem, effStore, effCall, effVar, effLit, effMake, effApp, Eff.ap, lend, evLit, evMake, evNil, freeze, onto, dropO, elemsV, sized, evCmp, eqT, eqG, minV, evUn, evField, evExtract, evIndexA, evIndexV, evSlice, optInt, fillV, placeOf, thawed, del, isNilSlice, plain, plainL, cellsJ, junkOk, St.with, setSlots, setObs, wantedD, seqOf, noRange, setAll, Array.size, te, einl, inls]
    simp only [whereM, if_pos hv]
    generalize hr : loopAt _ _ _ _ _ _ = r; revert r
    refine loop_list rs (fun pre _ => [(7, .own 7 0 ((spL q 0 pre).foldl pushS []).length), (8, .int .i64 (total pre)), (9, .int .i64 pre.length)])
      (fun pre _ => [(7, { es := 2, flat := true, t := true, app := true, elems := ((spL q 0 pre).foldl pushS []).map encSp })]) (fun _ (_ : Unit) => True) () (by omega) (by simp (maxSteps := 1000000) (implicitDefEqProofs := false) only [spL, List.foldl_nil, total_nil, ss, List.replicate, evOp, evPlain, evVal, evMem, St.eval, St.put, St.get, constV, List.set, lenV, sliceOf, arrayOf, fieldsOf, normOf, norm, firstRegion, look, maskFrom, evBin, evIndexS, evLoad, evVar, evStore, evFieldAddr, nameOf, St.alloc, St.drop, killL, kill, killAll, killObs, killOb, upd, cells?, part, retag, retagL, putIn, refFree, refFreeL, isNew, isNewL, Ty.isAgg, splice, idsL, ids, idsLL, reach, depth, St.dropL, resultsV, resultV, ↓reduceIte, Nat.reduceBEq, Nat.reduceAdd, Nat.reduceSub, Nat.reduceMul, Nat.reduceEqDiff, Nat.reduceLeDiff, Nat.reduceLT, effOf, effMem, effStore, effCall, effVar, effLit, effMake, effApp, Eff.ap, lend, evLit, evMake, evNil, freeze, onto, dropO, elemsV, sized, evCmp, eqT, eqG, minV, evUn, evField, evExtract, evIndexA, evIndexV, evSlice, optInt, fillV, placeOf, thawed, del, isNilSlice, plain, plainL, cellsJ, junkOk, St.with, setSlots, setObs, wantedD, seqOf, noRange, setAll, Array.size, te, einl, inls]) trivial
      (fun _ _ => ?_) (fun pre r post _ hp _ g1 g2 g3 g4 => ?_)
    · simp (maxSteps := 1000000) (implicitDefEqProofs := false) only [Int.lt_irrefl, Try.ntmps45, Try.results45, efc45, fc45, ss, List.replicate, evOp, evPlain, evVal, evMem, St.eval, St.put, St.get, constV, List.set, lenV, sliceOf, arrayOf, fieldsOf, normOf, norm, firstRegion, look, maskFrom, evBin, evIndexS, evLoad, evVar, evStore, evFieldAddr, nameOf, St.alloc, St.drop, killL, kill, killAll, killObs, killOb, upd, cells?, part, retag, retagL, putIn, refFree, refFreeL, isNew, isNewL, Ty.isAgg, splice, idsL, ids, idsLL, reach, depth, St.dropL, resultsV, resultV, ↓reduceIte, Nat.reduceBEq, Nat.reduceAdd, Nat.reduceSub, Nat.reduceMul, Nat.reduceEqDiff, Nat.reduceLeDiff, Nat.reduceLT, effOf, effMem, effStore, effCall, effVar, effLit, effMake, effApp, Eff.ap, lend, evLit, evMake, evNil, freeze, onto, dropO, elemsV, sized, evCmp, eqT, eqG, minV, evUn, evField, evExtract, evIndexA, evIndexV, evSlice, optInt, fillV, placeOf, thawed, del, isNilSlice, plain, plainL, cellsJ, junkOk, St.with, setSlots, setObs, wantedD, seqOf, noRange, setAll, Array.size, te, einl, inls]
      simp [encWh]
    · have h5 := okay_app (hp ▸ ho)
      have h7 := okay_nonneg h5.1
      have h8 := okay_nonneg h5.2
      have h9 := okay_lens ho r (by rw [hp]; simp)
      have h10 := ho.2
      rw [hp, total_app] at h10
      have e2 := spL_push q pre r
      have e3 : total (pre ++ [r]) = total pre + r.len := by rw [total_app, total_cons, total_nil]; omega
      have l0 := foldl_pushS_len (spL q 0 pre)
      have l1 := spL_len q pre 0
      have l2 : pre.length ≤ rs.length := by rw [hp]; simp
      have k1 := c51 q r.mk'
      simp only [encQ, encMk, Run.mk'] at k1
      rw [e2]
      unfold stepS
      generalize (spL q 0 pre).foldl pushS [] = acc at *
      have hroom1 : roomy 1 16 = true := by simp [roomy]
      have hroom : roomy (acc.length + 1) 16 = true := by simp [roomy]; omega
      have hbig : acc.length + 1 ≤ 4294967296 := by omega
      cases hb : holds q r.mk' with
      | false =>
        simp only [Run.mk'] at hb
        rw [hb] at k1
        simp (maxSteps := 1000000) (implicitDefEqProofs := false) (disch := omega) only [g1, g2, g3, Int.natCast_nonneg, Int.toNat_natCast, List.getElem?_map, encRun, encQ, hok, evRegion_st, k1, wrap_in, ss, List.replicate, evOp, evPlain, evVal, evMem, St.eval, St.put, St.get, constV, List.set, lenV, sliceOf, arrayOf, fieldsOf, normOf, norm, firstRegion, look, maskFrom, evBin, evIndexS, evLoad, evVar, evStore, evFieldAddr, nameOf, St.alloc, St.drop, killL, kill, killAll, killObs, killOb, upd, cells?, part, retag, retagL, putIn, refFree, refFreeL, isNew, isNewL, Ty.isAgg, splice, idsL, ids, idsLL, reach, depth, St.dropL, resultsV, resultV, ↓reduceIte, Nat.reduceBEq, Nat.reduceAdd, Nat.reduceSub, Nat.reduceMul, Nat.reduceEqDiff, Nat.reduceLeDiff, Nat.reduceLT, effOf, effMem, effStore, effCall, effVar, effLit, effMake, effApp, Eff.ap, lend, evLit, evMake, evNil, freeze, onto, dropO, elemsV, sized, evCmp, eqT, eqG, minV, evUn, evField, evExtract, evIndexA, evIndexV, evSlice, optInt, fillV, placeOf, thawed, del, isNilSlice, plain, plainL, cellsJ, junkOk, St.with, setSlots, setObs, wantedD, seqOf, noRange, setAll, Array.size, te, einl, inls]
        (first | exact ⟨(), trivial⟩ | refine ⟨(), ?_, trivial⟩ | skip)
        simp [e3]
      | true =>
        simp only [Run.mk'] at hb
        rw [hb] at k1
        rcases snoc_cases acc with rfl | ⟨l, s, rfl⟩
        · simp (maxSteps := 1000000) (implicitDefEqProofs := false) (disch := omega) only [g1, g2, g3, Int.natCast_nonneg, Int.toNat_natCast, List.getElem?_map, encRun, encQ, hok, evRegion_st, k1, hroom1, Int.lt_irrefl, wrap_in, ss, List.replicate, evOp, evPlain, evVal, evMem, St.eval, St.put, St.get, constV, List.set, lenV, sliceOf, arrayOf, fieldsOf, normOf, norm, firstRegion, look, maskFrom, evBin, evIndexS, evLoad, evVar, evStore, evFieldAddr, nameOf, St.alloc, St.drop, killL, kill, killAll, killObs, killOb, upd, cells?, part, retag, retagL, putIn, refFree, refFreeL, isNew, isNewL, Ty.isAgg, splice, idsL, ids, idsLL, reach, depth, St.dropL, resultsV, resultV, ↓reduceIte, Nat.reduceBEq, Nat.reduceAdd, Nat.reduceSub, Nat.reduceMul, Nat.reduceEqDiff, Nat.reduceLeDiff, Nat.reduceLT, effOf, effMem, effStore, effCall, effVar, effLit, effMake, effApp, Eff.ap, lend, evLit, evMake, evNil, freeze, onto, dropO, elemsV, sized, evCmp, eqT, eqG, minV, evUn, evField, evExtract, evIndexA, evIndexV, evSlice, optInt, fillV, placeOf, thawed, del, isNilSlice, plain, plainL, cellsJ, junkOk, St.with, setSlots, setObs, wantedD, seqOf, noRange, setAll, Array.size, te, einl, inls]
          (first | exact ⟨(), trivial⟩ | refine ⟨(), ?_, trivial⟩ | skip)
          simp [e3, pushS_nil, encSp]
        · have a1 : (0 : Int) < (l ++ [s]).length := by simp <;> omega
          have a2 : IntKind.i64.wrap (((l ++ [s]).length : Int) - 1) = (l.length : Int) := by rw [wrap_in (by simp at hbig ⊢; omega)]; simp
          have a3 : (l.length : Int) < (l ++ [s]).length := by simp <;> omega
          have a4 : (l ++ [s])[l.length]? = some s := by simp
          by_cases hs : s.2 = total pre
          · have hs' : (s.2 == total pre) = true := by simp [hs]
            simp (maxSteps := 1000000) (implicitDefEqProofs := false) (disch := omega) only [g1, g2, g3, Int.natCast_nonneg, Int.toNat_natCast, List.getElem?_map, encRun, encQ, encSp, hok, evRegion_st, k1, hroom, hbig, a1, a2, a3, a4, hs', wrap_in, ss, List.replicate, evOp, evPlain, evVal, evMem, St.eval, St.put, St.get, constV, List.set, lenV, sliceOf, arrayOf, fieldsOf, normOf, norm, firstRegion, look, maskFrom, evBin, evIndexS, evLoad, evVar, evStore, evFieldAddr, nameOf, St.alloc, St.drop, killL, kill, killAll, killObs, killOb, upd, cells?, part, retag, retagL, putIn, refFree, refFreeL, isNew, isNewL, Ty.isAgg, splice, idsL, ids, idsLL, reach, depth, St.dropL, resultsV, resultV, ↓reduceIte, Nat.reduceBEq, Nat.reduceAdd, Nat.reduceSub, Nat.reduceMul, Nat.reduceEqDiff, Nat.reduceLeDiff, Nat.reduceLT, effOf, effMem, effStore, effCall, effVar, effLit, effMake, effApp, Eff.ap, lend, evLit, evMake, evNil, freeze, onto, dropO, elemsV, sized, evCmp, eqT, eqG, minV, evUn, evField, evExtract, evIndexA, evIndexV, evSlice, optInt, fillV, placeOf, thawed, del, isNilSlice, plain, plainL, cellsJ, junkOk, St.with, setSlots, setObs, wantedD, seqOf, noRange, setAll, Array.size, te, einl, inls]
            (first | exact ⟨(), trivial⟩ | refine ⟨(), ?_, trivial⟩ | skip)
            rw [pushS_same _ _ _ hs]
            simp [e3, encSp, List.set_append]
          · have hs' : (s.2 == total pre) = false := by simp [hs]
            simp (maxSteps := 1000000) (implicitDefEqProofs := false) (disch := omega) only [g1, g2, g3, Int.natCast_nonneg, Int.toNat_natCast, List.getElem?_map, encRun, encQ, encSp, hok, evRegion_st, k1, hroom, hbig, a1, a2, a3, a4, hs', wrap_in, ss, List.replicate, evOp, evPlain, evVal, evMem, St.eval, St.put, St.get, constV, List.set, lenV, sliceOf, arrayOf, fieldsOf, normOf, norm, firstRegion, look, maskFrom, evBin, evIndexS, evLoad, evVar, evStore, evFieldAddr, nameOf, St.alloc, St.drop, killL, kill, killAll, killObs, killOb, upd, cells?, part, retag, retagL, putIn, refFree, refFreeL, isNew, isNewL, Ty.isAgg, splice, idsL, ids, idsLL, reach, depth, St.dropL, resultsV, resultV, ↓reduceIte, Nat.reduceBEq, Nat.reduceAdd, Nat.reduceSub, Nat.reduceMul, Nat.reduceEqDiff, Nat.reduceLeDiff, Nat.reduceLT, effOf, effMem, effStore, effCall, effVar, effLit, effMake, effApp, Eff.ap, lend, evLit, evMake, evNil, freeze, onto, dropO, elemsV, sized, evCmp, eqT, eqG, minV, evUn, evField, evExtract, evIndexA, evIndexV, evSlice, optInt, fillV, placeOf, thawed, del, isNilSlice, plain, plainL, cellsJ, junkOk, St.with, setSlots, setObs, wantedD, seqOf, noRange, setAll, Array.size, te, einl, inls]
            (first | exact ⟨(), trivial⟩ | refine ⟨(), ?_, trivial⟩ | skip)
            rw [pushS_other _ _ _ hs]
            simp [e3, encSp]
  · have hv' : (validate rs != 0) = true := by simp [hv]
    simp (maxSteps := 1000000) (implicitDefEqProofs := false) only [Try.ntmps45, Try.results45, efc45, fc45, h1, hv', encQ, ss, List.replicate, evOp, evPlain, evVal, evMem, St.eval, St.put, St.get, constV, List.set, lenV, sliceOf, arrayOf, fieldsOf, normOf, norm, firstRegion, look, maskFrom, evBin, evIndexS, evLoad, evVar, evStore, evFieldAddr, nameOf, St.alloc, St.drop, killL, kill, killAll, killObs, killOb, upd, cells?, part, retag, retagL, putIn, refFree, refFreeL, isNew, isNewL, Ty.isAgg, splice, idsL, ids, idsLL, reach, depth, St.dropL, resultsV, resultV, ↓reduceIte, Nat.reduceBEq, Nat.reduceAdd, Nat.reduceSub, Nat.reduceMul, Nat.reduceEqDiff, Nat.reduceLeDiff, Nat.reduceLT, effOf, effMem, effStore, effCall, effVar, effLit, effMake, effApp, Eff.ap, lend, evLit, evMake, evNil, freeze, onto, dropO, elemsV, sized, evCmp, eqT, eqG, minV, evUn, evField, evExtract, evIndexA, evIndexV, evSlice, optInt, fillV, placeOf, thawed, del, isNilSlice, plain, plainL, cellsJ, junkOk, St.with, setSlots, setObs, wantedD, seqOf, noRange, setAll, Array.size, te, einl, inls]
    simp [encWh, whereM, hv]

def cnt (l : List (Int × Int)) : Int := l.foldl (fun a s => IntKind.i64.wrap (a + IntKind.i64.wrap (s.2 - s.1))) 0
theorem cnt_snoc (l : List (Int × Int)) (s : Int × Int) : cnt (l ++ [s]) = IntKind.i64.wrap (cnt l + IntKind.i64.wrap (s.2 - s.1)) := by simp [cnt]
def countM (rs : List Run) (q : Qu) : Int × Int := (cnt (whereM rs q).1, (whereM rs q).2)

theorem whereM_le (rs : List Run) (q : Qu) : (whereM rs q).1.length ≤ rs.length := by
  unfold whereM
  split
  · exact Nat.le_trans (foldl_pushS_len _) (spL_len q rs 0)
  · exact Nat.zero_le _

theorem whereM_none {rs : List Run} {q : Qu} (h : (whereM rs q).2 ≠ 0) : (whereM rs q).1 = [] := by
  unfold whereM at h ⊢
  split
  · rename_i h2; rw [if_pos h2] at h; exact absurd rfl h
  · rfl

theorem c46 (rs : List Run) (q : Qu) (hn : rs.length ≤ 100000) : (orcω E X0).call 46 [.sl false (rs.map encRun), encQ q] = some (encLen (countM rs q)) := by
  refine call_of rfl fn46 rfl ?_
  have h1 := c44 rs q hn
  have l1 := whereM_le rs q
  have l2 := whereM_none (rs := rs) (q := q)
  simp only [countM, encWh] at *
  generalize whereM rs q = W at *
  obtain ⟨ws, e⟩ := W
  dsimp only at *
  by_cases he : e = 0
  · subst he
    simp only [encQ] at h1 ⊢
    simp (maxSteps := 1000000) (implicitDefEqProofs := false) only [Try.ntmps46, Try.results46, efc46, fc46, h1, bne_self_eq_false, ss, List.replicate, evOp, evPlain, evVal, evMem, St.eval, St.put, St.get, constV, List.set, lenV, sliceOf, arrayOf, fieldsOf, normOf, norm, firstRegion, look, maskFrom, evBin, evIndexS, evLoad, evVar, evStore, evFieldAddr, nameOf, St.alloc, St.drop, killL, kill, killAll, killObs, killOb, upd, cells?, part, retag, retagL, putIn, refFree, refFreeL, isNew, isNewL, Ty.isAgg, splice, idsL, ids, idsLL, reach, depth, St.dropL, resultsV, resultV, ↓reduceIte, Nat.reduceBEq, Nat.reduceAdd, Nat.reduceSub, Nat.reduceMul, Nat.reduceEqDiff, Nat.reduceLeDiff, Nat.reduceLT, effOf, effMem, effStore, effCall, effVar, effLit, effMake, effApp, Eff.ap, lend, evLit, evMake, evNil, freeze, onto, dropO, elemsV, sized, evCmp, eqT, eqG, minV, evUn, evField, evExtract, evIndexA, evIndexV, evSlice, optInt, fillV, placeOf, thawed, del, isNilSlice, plain, plainL, cellsJ, junkOk, St.with, setSlots, setObs, wantedD, seqOf, noRange, setAll, Array.size, te, einl, inls]
    generalize hr : loopAt _ _ _ _ _ _ = r; revert r
    refine loop_list ws (fun pre _ => [(8, .int .i64 (cnt pre)), (22, .int .i64 pre.length)]) (fun _ _ => []) (fun _ (_ : Unit) => True) () (by omega) (by simp (maxSteps := 1000000) (implicitDefEqProofs := false) only [ss, List.replicate, evOp, evPlain, evVal, evMem, St.eval, St.put, St.get, constV, List.set, lenV, sliceOf, arrayOf, fieldsOf, normOf, norm, firstRegion, look, maskFrom, evBin, evIndexS, evLoad, evVar, evStore, evFieldAddr, nameOf, St.alloc, St.drop, killL, kill, killAll, killObs, killOb, upd, cells?, part, retag, retagL, putIn, refFree, refFreeL, isNew, isNewL, Ty.isAgg, splice, idsL, ids, idsLL, reach, depth, St.dropL, resultsV, resultV, ↓reduceIte, Nat.reduceBEq, Nat.reduceAdd, Nat.reduceSub, Nat.reduceMul, Nat.reduceEqDiff, Nat.reduceLeDiff, Nat.reduceLT, effOf, effMem, effStore, effCall, effVar, effLit, effMake, effApp, Eff.ap, lend, evLit, evMake, evNil, freeze, onto, dropO, elemsV, sized, evCmp, eqT, eqG, minV, evUn, evField, evExtract, evIndexA, evIndexV, evSlice, optInt, fillV, placeOf, thawed, del, isNilSlice, plain, plainL, cellsJ, junkOk, St.with, setSlots, setObs, wantedD, seqOf, noRange, setAll, Array.size, te, einl, inls]; rfl) trivial (fun _ _ => ?_) (fun pre x post _ hp _ g1 g2 g3 g4 => ?_)
    · simp (maxSteps := 1000000) (implicitDefEqProofs := false) only [Int.lt_irrefl, Try.ntmps46, Try.results46, efc46, fc46, ss, List.replicate, evOp, evPlain, evVal, evMem, St.eval, St.put, St.get, constV, List.set, lenV, sliceOf, arrayOf, fieldsOf, normOf, norm, firstRegion, look, maskFrom, evBin, evIndexS, evLoad, evVar, evStore, evFieldAddr, nameOf, St.alloc, St.drop, killL, kill, killAll, killObs, killOb, upd, cells?, part, retag, retagL, putIn, refFree, refFreeL, isNew, isNewL, Ty.isAgg, splice, idsL, ids, idsLL, reach, depth, St.dropL, resultsV, resultV, ↓reduceIte, Nat.reduceBEq, Nat.reduceAdd, Nat.reduceSub, Nat.reduceMul, Nat.reduceEqDiff, Nat.reduceLeDiff, Nat.reduceLT, effOf, effMem, effStore, effCall, effVar, effLit, effMake, effApp, Eff.ap, lend, evLit, evMake, evNil, freeze, onto, dropO, elemsV, sized, evCmp, eqT, eqG, minV, evUn, evField, evExtract, evIndexA, evIndexV, evSlice, optInt, fillV, placeOf, thawed, del, isNilSlice, plain, plainL, cellsJ, junkOk, St.with, setSlots, setObs, wantedD, seqOf, noRange, setAll, Array.size, te, einl, inls]
      try simp [encLen]
    · simp (maxSteps := 1000000) (implicitDefEqProofs := false) only [g1, g2, g3, g4, Int.natCast_nonneg, Int.toNat_natCast, List.getElem?_map, encSp, ss, List.replicate, evOp, evPlain, evVal, evMem, St.eval, St.put, St.get, constV, List.set, lenV, sliceOf, arrayOf, fieldsOf, normOf, norm, firstRegion, look, maskFrom, evBin, evIndexS, evLoad, evVar, evStore, evFieldAddr, nameOf, St.alloc, St.drop, killL, kill, killAll, killObs, killOb, upd, cells?, part, retag, retagL, putIn, refFree, refFreeL, isNew, isNewL, Ty.isAgg, splice, idsL, ids, idsLL, reach, depth, St.dropL, resultsV, resultV, ↓reduceIte, Nat.reduceBEq, Nat.reduceAdd, Nat.reduceSub, Nat.reduceMul, Nat.reduceEqDiff, Nat.reduceLeDiff, Nat.reduceLT, effOf, effMem, effStore, effCall, effVar, effLit, effMake, effApp, Eff.ap, lend, evLit, evMake, evNil, freeze, onto, dropO, elemsV, sized, evCmp, eqT, eqG, minV, evUn, evField, evExtract, evIndexA, evIndexV, evSlice, optInt, fillV, placeOf, thawed, del, isNilSlice, plain, plainL, cellsJ, junkOk, St.with, setSlots, setObs, wantedD, seqOf, noRange, setAll, Array.size, te, einl, inls]
      (first | exact ⟨(), trivial⟩ | refine ⟨(), ?_, trivial⟩ | skip)
      try simp [cnt_snoc]
  · have he' : (e != 0) = true := by simp [he]
    obtain rfl := l2 he
    simp only [encQ] at h1 ⊢
    simp (maxSteps := 1000000) (implicitDefEqProofs := false) only [Try.ntmps46, Try.results46, efc46, fc46, h1, he', ss, List.replicate, evOp, evPlain, evVal, evMem, St.eval, St.put, St.get, constV, List.set, lenV, sliceOf, arrayOf, fieldsOf, normOf, norm, firstRegion, look, maskFrom, evBin, evIndexS, evLoad, evVar, evStore, evFieldAddr, nameOf, St.alloc, St.drop, killL, kill, killAll, killObs, killOb, upd, cells?, part, retag, retagL, putIn, refFree, refFreeL, isNew, isNewL, Ty.isAgg, splice, idsL, ids, idsLL, reach, depth, St.dropL, resultsV, resultV, ↓reduceIte, Nat.reduceBEq, Nat.reduceAdd, Nat.reduceSub, Nat.reduceMul, Nat.reduceEqDiff, Nat.reduceLeDiff, Nat.reduceLT, effOf, effMem, effStore, effCall, effVar, effLit, effMake, effApp, Eff.ap, lend, evLit, evMake, evNil, freeze, onto, dropO, elemsV, sized, evCmp, eqT, eqG, minV, evUn, evField, evExtract, evIndexA, evIndexV, evSlice, optInt, fillV, placeOf, thawed, del, isNilSlice, plain, plainL, cellsJ, junkOk, St.with, setSlots, setObs, wantedD, seqOf, noRange, setAll, Array.size, te, einl, inls]
    try simp [encLen, cnt]

theorem okT47 : okCode (Try.f47.body.getD .skip) = true := by decide +kernel

theorem c47 (rs : List Run) (q : Qu) (hn : rs.length ≤ 100000) : (orcω E X0).call 47 [.sl false (rs.map encRun), encQ q] = some (encLen (countM rs q)) := by
  refine call_of rfl fn47 rfl ?_
  have hok := okT47
  simp only [Try.f47, Option.getD_some, okCode, Bool.and_eq_true, Bool.and_true, Bool.true_and] at hok
  have h1 := c45 rs q hn
  have l1 := whereM_le rs q
  simp only [countM, encWh] at *
  generalize whereM rs q = W at *
  obtain ⟨ws, e⟩ := W
  dsimp only at *
  simp only [encQ] at h1 ⊢
  simp (maxSteps := 1000000) (implicitDefEqProofs := false) only [Try.ntmps47, Try.results47, efc47, fc47, h1, ss, List.replicate, evOp, evPlain, evVal, evMem, St.eval, St.put, St.get, constV, List.set, lenV, sliceOf, arrayOf, fieldsOf, normOf, norm, firstRegion, look, maskFrom, evBin, evIndexS, evLoad, evVar, evStore, evFieldAddr, nameOf, St.alloc, St.drop, killL, kill, killAll, killObs, killOb, upd, cells?, part, retag, retagL, putIn, refFree, refFreeL, isNew, isNewL, Ty.isAgg, splice, idsL, ids, idsLL, reach, depth, St.dropL, resultsV, resultV, ↓reduceIte, Nat.reduceBEq, Nat.reduceAdd, Nat.reduceSub, Nat.reduceMul, Nat.reduceEqDiff, Nat.reduceLeDiff, Nat.reduceLT, effOf, effMem, effStore, effCall, effVar, effLit, effMake, effApp, Eff.ap, lend, evLit, evMake, evNil, freeze, onto, dropO, elemsV, sized, evCmp, eqT, eqG, minV, evUn, evField, evExtract, evIndexA, evIndexV, evSlice, optInt, fillV, placeOf, thawed, del, isNilSlice, plain, plainL, cellsJ, junkOk, St.with, setSlots, setObs, wantedD, seqOf, noRange, setAll, Array.size, te, einl, inls]
  generalize hr : loopAt _ _ _ _ _ _ = r; revert r
  refine loop_list ws (fun pre _ => [(8, .int .i64 (cnt pre)), (9, .int .i64 pre.length)]) (fun _ _ => []) (fun _ (_ : Unit) => True) () (by omega) (by simp (maxSteps := 1000000) (implicitDefEqProofs := false) only [ss, List.replicate, evOp, evPlain, evVal, evMem, St.eval, St.put, St.get, constV, List.set, lenV, sliceOf, arrayOf, fieldsOf, normOf, norm, firstRegion, look, maskFrom, evBin, evIndexS, evLoad, evVar, evStore, evFieldAddr, nameOf, St.alloc, St.drop, killL, kill, killAll, killObs, killOb, upd, cells?, part, retag, retagL, putIn, refFree, refFreeL, isNew, isNewL, Ty.isAgg, splice, idsL, ids, idsLL, reach, depth, St.dropL, resultsV, resultV, ↓reduceIte, Nat.reduceBEq, Nat.reduceAdd, Nat.reduceSub, Nat.reduceMul, Nat.reduceEqDiff, Nat.reduceLeDiff, Nat.reduceLT, effOf, effMem, effStore, effCall, effVar, effLit, effMake, effApp, Eff.ap, lend, evLit, evMake, evNil, freeze, onto, dropO, elemsV, sized, evCmp, eqT, eqG, minV, evUn, evField, evExtract, evIndexA, evIndexV, evSlice, optInt, fillV, placeOf, thawed, del, isNilSlice, plain, plainL, cellsJ, junkOk, St.with, setSlots, setObs, wantedD, seqOf, noRange, setAll, Array.size, te, einl, inls]; rfl) trivial (fun _ _ => ?_) (fun pre x post _ hp _ g1 g2 g3 g4 => ?_)
  · simp (maxSteps := 1000000) (implicitDefEqProofs := false) only [Int.lt_irrefl, Try.ntmps47, Try.results47, efc47, fc47, ss, List.replicate, evOp, evPlain, evVal, evMem, St.eval, St.put, St.get, constV, List.set, lenV, sliceOf, arrayOf, fieldsOf, normOf, norm, firstRegion, look, maskFrom, evBin, evIndexS, evLoad, evVar, evStore, evFieldAddr, nameOf, St.alloc, St.drop, killL, kill, killAll, killObs, killOb, upd, cells?, part, retag, retagL, putIn, refFree, refFreeL, isNew, isNewL, Ty.isAgg, splice, idsL, ids, idsLL, reach, depth, St.dropL, resultsV, resultV, ↓reduceIte, Nat.reduceBEq, Nat.reduceAdd, Nat.reduceSub, Nat.reduceMul, Nat.reduceEqDiff, Nat.reduceLeDiff, Nat.reduceLT, effOf, effMem, effStore, effCall, effVar, effLit, effMake, effApp, Eff.ap, lend, evLit, evMake, evNil, freeze, onto, dropO, elemsV, sized, evCmp, eqT, eqG, minV, evUn, evField, evExtract, evIndexA, evIndexV, evSlice, optInt, fillV, placeOf, thawed, del, isNilSlice, plain, plainL, cellsJ, junkOk, St.with, setSlots, setObs, wantedD, seqOf, noRange, setAll, Array.size, te, einl, inls]
    try simp [encLen]
  · simp (maxSteps := 1000000) (implicitDefEqProofs := false) only [g1, g2, g3, g4, Int.natCast_nonneg, Int.toNat_natCast, List.getElem?_map, encSp, hok, evRegion_st, ss, List.replicate, evOp, evPlain, evVal, evMem, St.eval, St.put, St.get, constV, List.set, lenV, sliceOf, arrayOf, fieldsOf, normOf, norm, firstRegion, look, maskFrom, evBin, evIndexS, evLoad, evVar, evStore, evFieldAddr, nameOf, St.alloc, St.drop, killL, kill, killAll, killObs, killOb, upd, cells?, part, retag, retagL, putIn, refFree, refFreeL, isNew, isNewL, Ty.isAgg, splice, idsL, ids, idsLL, reach, depth, St.dropL, resultsV, resultV, ↓reduceIte, Nat.reduceBEq, Nat.reduceAdd, Nat.reduceSub, Nat.reduceMul, Nat.reduceEqDiff, Nat.reduceLeDiff, Nat.reduceLT, effOf, effMem, effStore, effCall, effVar, effLit, effMake, effApp, Eff.ap, lend, evLit, evMake, evNil, freeze, onto, dropO, elemsV, sized, evCmp, eqT, eqG, minV, evUn, evField, evExtract, evIndexA, evIndexV, evSlice, optInt, fillV, placeOf, thawed, del, isNilSlice, plain, plainL, cellsJ, junkOk, St.with, setSlots, setObs, wantedD, seqOf, noRange, setAll, Array.size, te, einl, inls]
    (first | exact ⟨(), trivial⟩ | refine ⟨(), ?_, trivial⟩ | skip)
    try simp [cnt_snoc]

def vol (rs : List Run) : Int := rs.foldl (fun a r => IntKind.i64.wrap (a + IntKind.i64.wrap (r.len * r.thick))) 0
theorem vol_snoc (l : List Run) (r : Run) : vol (l ++ [r]) = IntKind.i64.wrap (vol l + IntKind.i64.wrap (r.len * r.thick)) := by simp [vol]
def volM (rs : List Run) : Int × Int := if validate rs = 0 then (vol rs, 0) else (0, validate rs)

theorem c48 (rs : List Run) (hn : rs.length ≤ 100000) : (orcω E X0).call 48 [.sl false (rs.map encRun)] = some (encLen (volM rs)) := by
  refine call_of rfl fn48 rfl ?_
  have h1 := c23 false rs (by omega)
  by_cases hv : validate rs = 0
  · rw [hv] at h1
    simp (maxSteps := 1000000) (implicitDefEqProofs := false) only [Try.ntmps48, Try.results48, efc48, fc48, h1, bne_self_eq_false, ss, List.replicate, evOp, evPlain, evVal, evMem, St.eval, St.put, St.get, constV, List.set, lenV, sliceOf, arrayOf, fieldsOf, normOf, norm, firstRegion, look, maskFrom, evBin, evIndexS, evLoad, evVar, evStore, evFieldAddr, nameOf, St.alloc, St.drop, killL, kill, killAll, killObs, killOb, upd, cells?, part, retag, retagL, putIn, refFree, refFreeL, isNew, isNewL, Ty.isAgg, splice, idsL, ids, idsLL, reach, depth, St.dropL, resultsV, resultV, ↓reduceIte, Nat.reduceBEq, Nat.reduceAdd, Nat.reduceSub, Nat.reduceMul, Nat.reduceEqDiff, Nat.reduceLeDiff, Nat.reduceLT, effOf, effMem, effStore, effCall, effVar, effLit, effMake, effApp, Eff.ap, lend, evLit, evMake, evNil, freeze, onto, dropO, elemsV, sized, evCmp, eqT, eqG, minV, evUn, evField, evExtract, evIndexA, evIndexV, evSlice, optInt, fillV, placeOf, thawed, del, isNilSlice, plain, plainL, cellsJ, junkOk, St.with, setSlots, setObs, wantedD, seqOf, noRange, setAll, Array.size, te, einl, inls]
    simp only [volM, if_pos hv]
    generalize hr : loopAt _ _ _ _ _ _ = r; revert r
    refine loop_list rs (fun pre _ => [(5, .int .i64 (vol pre)), (15, .int .i64 pre.length)]) (fun _ _ => []) (fun _ (_ : Unit) => True) () (by omega) (by simp (maxSteps := 1000000) (implicitDefEqProofs := false) only [ss, List.replicate, evOp, evPlain, evVal, evMem, St.eval, St.put, St.get, constV, List.set, lenV, sliceOf, arrayOf, fieldsOf, normOf, norm, firstRegion, look, maskFrom, evBin, evIndexS, evLoad, evVar, evStore, evFieldAddr, nameOf, St.alloc, St.drop, killL, kill, killAll, killObs, killOb, upd, cells?, part, retag, retagL, putIn, refFree, refFreeL, isNew, isNewL, Ty.isAgg, splice, idsL, ids, idsLL, reach, depth, St.dropL, resultsV, resultV, ↓reduceIte, Nat.reduceBEq, Nat.reduceAdd, Nat.reduceSub, Nat.reduceMul, Nat.reduceEqDiff, Nat.reduceLeDiff, Nat.reduceLT, effOf, effMem, effStore, effCall, effVar, effLit, effMake, effApp, Eff.ap, lend, evLit, evMake, evNil, freeze, onto, dropO, elemsV, sized, evCmp, eqT, eqG, minV, evUn, evField, evExtract, evIndexA, evIndexV, evSlice, optInt, fillV, placeOf, thawed, del, isNilSlice, plain, plainL, cellsJ, junkOk, St.with, setSlots, setObs, wantedD, seqOf, noRange, setAll, Array.size, te, einl, inls]; rfl) trivial (fun _ _ => ?_) (fun pre x post _ hp _ g1 g2 g3 g4 => ?_)
    · simp (maxSteps := 1000000) (implicitDefEqProofs := false) only [Int.lt_irrefl, Try.ntmps48, Try.results48, efc48, fc48, ss, List.replicate, evOp, evPlain, evVal, evMem, St.eval, St.put, St.get, constV, List.set, lenV, sliceOf, arrayOf, fieldsOf, normOf, norm, firstRegion, look, maskFrom, evBin, evIndexS, evLoad, evVar, evStore, evFieldAddr, nameOf, St.alloc, St.drop, killL, kill, killAll, killObs, killOb, upd, cells?, part, retag, retagL, putIn, refFree, refFreeL, isNew, isNewL, Ty.isAgg, splice, idsL, ids, idsLL, reach, depth, St.dropL, resultsV, resultV, ↓reduceIte, Nat.reduceBEq, Nat.reduceAdd, Nat.reduceSub, Nat.reduceMul, Nat.reduceEqDiff, Nat.reduceLeDiff, Nat.reduceLT, effOf, effMem, effStore, effCall, effVar, effLit, effMake, effApp, Eff.ap, lend, evLit, evMake, evNil, freeze, onto, dropO, elemsV, sized, evCmp, eqT, eqG, minV, evUn, evField, evExtract, evIndexA, evIndexV, evSlice, optInt, fillV, placeOf, thawed, del, isNilSlice, plain, plainL, cellsJ, junkOk, St.with, setSlots, setObs, wantedD, seqOf, noRange, setAll, Array.size, te, einl, inls]
      try simp [encLen]
    · simp (maxSteps := 1000000) (implicitDefEqProofs := false) only [g1, g2, g3, g4, Int.natCast_nonneg, Int.toNat_natCast, List.getElem?_map, encRun, ss, List.replicate, evOp, evPlain, evVal, evMem, St.eval, St.put, St.get, constV, List.set, lenV, sliceOf, arrayOf, fieldsOf, normOf, norm, firstRegion, look, maskFrom, evBin, evIndexS, evLoad, evVar, evStore, evFieldAddr, nameOf, St.alloc, St.drop, killL, kill, killAll, killObs, killOb, upd, cells?, part, retag, retagL, putIn, refFree, refFreeL, isNew, isNewL, Ty.isAgg, splice, idsL, ids, idsLL, reach, depth, St.dropL, resultsV, resultV, ↓reduceIte, Nat.reduceBEq, Nat.reduceAdd, Nat.reduceSub, Nat.reduceMul, Nat.reduceEqDiff, Nat.reduceLeDiff, Nat.reduceLT, effOf, effMem, effStore, effCall, effVar, effLit, effMake, effApp, Eff.ap, lend, evLit, evMake, evNil, freeze, onto, dropO, elemsV, sized, evCmp, eqT, eqG, minV, evUn, evField, evExtract, evIndexA, evIndexV, evSlice, optInt, fillV, placeOf, thawed, del, isNilSlice, plain, plainL, cellsJ, junkOk, St.with, setSlots, setObs, wantedD, seqOf, noRange, setAll, Array.size, te, einl, inls]
      (first | exact ⟨(), trivial⟩ | refine ⟨(), ?_, trivial⟩ | skip)
      try simp [vol_snoc]
  · have hv' : (validate rs != 0) = true := by simp [hv]
    simp (maxSteps := 1000000) (implicitDefEqProofs := false) only [Try.ntmps48, Try.results48, efc48, fc48, h1, hv', ss, List.replicate, evOp, evPlain, evVal, evMem, St.eval, St.put, St.get, constV, List.set, lenV, sliceOf, arrayOf, fieldsOf, normOf, norm, firstRegion, look, maskFrom, evBin, evIndexS, evLoad, evVar, evStore, evFieldAddr, nameOf, St.alloc, St.drop, killL, kill, killAll, killObs, killOb, upd, cells?, part, retag, retagL, putIn, refFree, refFreeL, isNew, isNewL, Ty.isAgg, splice, idsL, ids, idsLL, reach, depth, St.dropL, resultsV, resultV, ↓reduceIte, Nat.reduceBEq, Nat.reduceAdd, Nat.reduceSub, Nat.reduceMul, Nat.reduceEqDiff, Nat.reduceLeDiff, Nat.reduceLT, effOf, effMem, effStore, effCall, effVar, effLit, effMake, effApp, Eff.ap, lend, evLit, evMake, evNil, freeze, onto, dropO, elemsV, sized, evCmp, eqT, eqG, minV, evUn, evField, evExtract, evIndexA, evIndexV, evSlice, optInt, fillV, placeOf, thawed, del, isNilSlice, plain, plainL, cellsJ, junkOk, St.with, setSlots, setObs, wantedD, seqOf, noRange, setAll, Array.size, te, einl, inls]
    try simp [encLen, volM, hv]

theorem okT49 : okCode (Try.f49.body.getD .skip) = true := by decide +kernel

theorem c49 (rs : List Run) (hn : rs.length ≤ 100000) : (orcω E X0).call 49 [.sl false (rs.map encRun)] = some (encLen (volM rs)) := by
  refine call_of rfl fn49 rfl ?_
  have hok := okT49
  simp only [Try.f49, Option.getD_some, okCode, Bool.and_eq_true, Bool.and_true, Bool.true_and] at hok
  have h1 := c24 false rs (by omega)
  by_cases hv : validate rs = 0
  · rw [hv] at h1
    simp (maxSteps := 1000000) (implicitDefEqProofs := false) only [Try.ntmps49, Try.results49, efc49, fc49, h1, bne_self_eq_false, ss, List.replicate, evOp, evPlain, evVal, evMem, St.eval, St.put, St.get, constV, List.set, lenV, sliceOf, arrayOf, fieldsOf, normOf, norm, firstRegion, look, maskFrom, evBin, evIndexS, evLoad, evVar, evStore, evFieldAddr, nameOf, St.alloc, St.drop, killL, kill, killAll, killObs, killOb, upd, cells?, part, retag, retagL, putIn, refFree, refFreeL, isNew, isNewL, Ty.isAgg, splice, idsL, ids, idsLL, reach, depth, St.dropL, resultsV, resultV, ↓reduceIte, Nat.reduceBEq, Nat.reduceAdd, Nat.reduceSub, Nat.reduceMul, Nat.reduceEqDiff, Nat.reduceLeDiff, Nat.reduceLT, effOf, effMem, effStore, effCall, effVar, effLit, effMake, effApp, Eff.ap, lend, evLit, evMake, evNil, freeze, onto, dropO, elemsV, sized, evCmp, eqT, eqG, minV, evUn, evField, evExtract, evIndexA, evIndexV, evSlice, optInt, fillV, placeOf, thawed, del, isNilSlice, plain, plainL, cellsJ, junkOk, St.with, setSlots, setObs, wantedD, seqOf, noRange, setAll, Array.size, te, einl, inls]
    simp only [volM, if_pos hv]
    generalize hr : loopAt _ _ _ _ _ _ = r; revert r
    refine loop_list rs (fun pre _ => [(5, .int .i64 (vol pre)), (6, .int .i64 pre.length)]) (fun _ _ => []) (fun _ (_ : Unit) => True) () (by omega) (by simp (maxSteps := 1000000) (implicitDefEqProofs := false) only [ss, List.replicate, evOp, evPlain, evVal, evMem, St.eval, St.put, St.get, constV, List.set, lenV, sliceOf, arrayOf, fieldsOf, normOf, norm, firstRegion, look, maskFrom, evBin, evIndexS, evLoad, evVar, evStore, evFieldAddr, nameOf, St.alloc, St.drop, killL, kill, killAll, killObs, killOb, upd, cells?, part, retag, retagL, putIn, refFree, refFreeL, isNew, isNewL, Ty.isAgg, splice, idsL, ids, idsLL, reach, depth, St.dropL, resultsV, resultV, ↓reduceIte, Nat.reduceBEq, Nat.reduceAdd, Nat.reduceSub, Nat.reduceMul, Nat.reduceEqDiff, Nat.reduceLeDiff, Nat.reduceLT, effOf, effMem, effStore, effCall, effVar, effLit, effMake, effApp, Eff.ap, lend, evLit, evMake, evNil, freeze, onto, dropO, elemsV, sized, evCmp, eqT, eqG, minV, evUn, evField, evExtract, evIndexA, evIndexV, evSlice, optInt, fillV, placeOf, thawed, del, isNilSlice, plain, plainL, cellsJ, junkOk, St.with, setSlots, setObs, wantedD, seqOf, noRange, setAll, Array.size, te, einl, inls]; rfl) trivial (fun _ _ => ?_) (fun pre x post _ hp _ g1 g2 g3 g4 => ?_)
    · simp (maxSteps := 1000000) (implicitDefEqProofs := false) only [Int.lt_irrefl, Try.ntmps49, Try.results49, efc49, fc49, ss, List.replicate, evOp, evPlain, evVal, evMem, St.eval, St.put, St.get, constV, List.set, lenV, sliceOf, arrayOf, fieldsOf, normOf, norm, firstRegion, look, maskFrom, evBin, evIndexS, evLoad, evVar, evStore, evFieldAddr, nameOf, St.alloc, St.drop, killL, kill, killAll, killObs, killOb, upd, cells?, part, retag, retagL, putIn, refFree, refFreeL, isNew, isNewL, Ty.isAgg, splice, idsL, ids, idsLL, reach, depth, St.dropL, resultsV, resultV, ↓reduceIte, Nat.reduceBEq, Nat.reduceAdd, Nat.reduceSub, Nat.reduceMul, Nat.reduceEqDiff, Nat.reduceLeDiff, Nat.reduceLT, effOf, effMem, effStore, effCall, effVar, effLit, effMake, effApp, Eff.ap, lend, evLit, evMake, evNil, freeze, onto, dropO, elemsV, sized, evCmp, eqT, eqG, minV, evUn, evField, evExtract, evIndexA, evIndexV, evSlice, optInt, fillV, placeOf, thawed, del, isNilSlice, plain, plainL, cellsJ, junkOk, St.with, setSlots, setObs, wantedD, seqOf, noRange, setAll, Array.size, te, einl, inls]
      try simp [encLen]
    · simp (maxSteps := 1000000) (implicitDefEqProofs := false) only [g1, g2, g3, g4, Int.natCast_nonneg, Int.toNat_natCast, List.getElem?_map, encRun, hok, evRegion_st, ss, List.replicate, evOp, evPlain, evVal, evMem, St.eval, St.put, St.get, constV, List.set, lenV, sliceOf, arrayOf, fieldsOf, normOf, norm, firstRegion, look, maskFrom, evBin, evIndexS, evLoad, evVar, evStore, evFieldAddr, nameOf, St.alloc, St.drop, killL, kill, killAll, killObs, killOb, upd, cells?, part, retag, retagL, putIn, refFree, refFreeL, isNew, isNewL, Ty.isAgg, splice, idsL, ids, idsLL, reach, depth, St.dropL, resultsV, resultV, ↓reduceIte, Nat.reduceBEq, Nat.reduceAdd, Nat.reduceSub, Nat.reduceMul, Nat.reduceEqDiff, Nat.reduceLeDiff, Nat.reduceLT, effOf, effMem, effStore, effCall, effVar, effLit, effMake, effApp, Eff.ap, lend, evLit, evMake, evNil, freeze, onto, dropO, elemsV, sized, evCmp, eqT, eqG, minV, evUn, evField, evExtract, evIndexA, evIndexV, evSlice, optInt, fillV, placeOf, thawed, del, isNilSlice, plain, plainL, cellsJ, junkOk, St.with, setSlots, setObs, wantedD, seqOf, noRange, setAll, Array.size, te, einl, inls]
      (first | exact ⟨(), trivial⟩ | refine ⟨(), ?_, trivial⟩ | skip)
      try simp [vol_snoc]
  · have hv' : (validate rs != 0) = true := by simp [hv]
    simp (maxSteps := 1000000) (implicitDefEqProofs := false) only [Try.ntmps49, Try.results49, efc49, fc49, h1, hv', ss, List.replicate, evOp, evPlain, evVal, evMem, St.eval, St.put, St.get, constV, List.set, lenV, sliceOf, arrayOf, fieldsOf, normOf, norm, firstRegion, look, maskFrom, evBin, evIndexS, evLoad, evVar, evStore, evFieldAddr, nameOf, St.alloc, St.drop, killL, kill, killAll, killObs, killOb, upd, cells?, part, retag, retagL, putIn, refFree, refFreeL, isNew, isNewL, Ty.isAgg, splice, idsL, ids, idsLL, reach, depth, St.dropL, resultsV, resultV, ↓reduceIte, Nat.reduceBEq, Nat.reduceAdd, Nat.reduceSub, Nat.reduceMul, Nat.reduceEqDiff, Nat.reduceLeDiff, Nat.reduceLT, effOf, effMem, effStore, effCall, effVar, effLit, effMake, effApp, Eff.ap, lend, evLit, evMake, evNil, freeze, onto, dropO, elemsV, sized, evCmp, eqT, eqG, minV, evUn, evField, evExtract, evIndexA, evIndexV, evSlice, optInt, fillV, placeOf, thawed, del, isNilSlice, plain, plainL, cellsJ, junkOk, St.with, setSlots, setObs, wantedD, seqOf, noRange, setAll, Array.size, te, einl, inls]
    try simp [encLen, volM, hv]

end Go.AM.A
end

section
namespace Go.AM.A
open Go Go.Proofs

theorem okT10 : okCode (Try.f10.body.getD .skip) = true := by decide +kernel

theorem c10 (xs : List Run) (q : Qu) (m : Mk) : (orcω E X0).call 10 [.sl false (xs.map encRun), encQ q, encMk m] = some (.bool true) := by
  refine call_of rfl fn10 rfl ?_
  have hok := okT10
  simp only [Try.f10, Option.getD_some, okCode, Bool.and_eq_true, Bool.and_true, Bool.true_and] at hok
  have k1 := c16 false xs
  by_cases hx : (100 : Int) < xs.length
  · simp only [hx, decide_true] at k1
    simp (maxSteps := 1000000) (implicitDefEqProofs := false) only [Try.ntmps10, Try.results10, efc10, fc10, k1, c17, encQ, encMk, ss, List.replicate, evOp, evPlain, evVal, evMem, St.eval, St.put, St.get, constV, List.set, lenV, sliceOf, arrayOf, fieldsOf, normOf, norm, firstRegion, look, maskFrom, evBin, evIndexS, evLoad, evVar, evStore, evFieldAddr, nameOf, St.alloc, St.drop, killL, kill, killAll, killObs, killOb, upd, cells?, part, retag, retagL, putIn, refFree, refFreeL, isNew, isNewL, Ty.isAgg, splice, idsL, ids, idsLL, reach, depth, St.dropL, resultsV, resultV, ↓reduceIte, Nat.reduceBEq, Nat.reduceAdd, Nat.reduceSub, Nat.reduceMul, Nat.reduceEqDiff, Nat.reduceLeDiff, Nat.reduceLT, effOf, effMem, effStore, effCall, effVar, effLit, effMake, effApp, Eff.ap, lend, evLit, evMake, evNil, freeze, onto, dropO, elemsV, sized, evCmp, eqT, eqG, minV, evUn, evField, evExtract, evIndexA, evIndexV, evSlice, optInt, fillV, placeOf, thawed, del, isNilSlice, plain, plainL, cellsJ, junkOk, St.with, setSlots, setObs, wantedD, seqOf, noRange, setAll, Array.size, te, einl, inls]
  simp only [hx, decide_false] at k1
  have k3 := c44 xs q (by omega)
  have k4 := c45 xs q (by omega)
  have k5 := c46 xs q (by omega)
  have k6 := c47 xs q (by omega)
  have k7 := c48 xs (by omega)
  have k8 := c49 xs (by omega)
  have k9 := c50 q m
  have k10 := c51 q m
  have l1 := whereM_le xs q
  generalize countM xs q = J at *
  generalize whereM xs q = W at *
  generalize volM xs = U at *
  generalize holds q m = B at *
  obtain ⟨ws, e⟩ := W
  obtain ⟨j, je⟩ := J
  obtain ⟨u, ue⟩ := U
  dsimp only at l1
  simp only [encWh, encLen, encQ, encMk] at *
  have hB : (B != B) = false := by simp
  simp (maxSteps := 1000000) (implicitDefEqProofs := false) only [Try.ntmps10, Try.results10, efc10, fc10, k1, k3, k4, k5, k6, k7, k8, k9, k10, bne_self_eq_false, beq_self_eq_true, hB, hok, evRegion_st, ss, List.replicate, evOp, evPlain, evVal, evMem, St.eval, St.put, St.get, constV, List.set, lenV, sliceOf, arrayOf, fieldsOf, normOf, norm, firstRegion, look, maskFrom, evBin, evIndexS, evLoad, evVar, evStore, evFieldAddr, nameOf, St.alloc, St.drop, killL, kill, killAll, killObs, killOb, upd, cells?, part, retag, retagL, putIn, refFree, refFreeL, isNew, isNewL, Ty.isAgg, splice, idsL, ids, idsLL, reach, depth, St.dropL, resultsV, resultV, ↓reduceIte, Nat.reduceBEq, Nat.reduceAdd, Nat.reduceSub, Nat.reduceMul, Nat.reduceEqDiff, Nat.reduceLeDiff, Nat.reduceLT, effOf, effMem, effStore, effCall, effVar, effLit, effMake, effApp, Eff.ap, lend, evLit, evMake, evNil, freeze, onto, dropO, elemsV, sized, evCmp, eqT, eqG, minV, evUn, evField, evExtract, evIndexA, evIndexV, evSlice, optInt, fillV, placeOf, thawed, del, isNilSlice, plain, plainL, cellsJ, junkOk, St.with, setSlots, setObs, wantedD, seqOf, noRange, setAll, Array.size, te, einl, inls]
  generalize hr : loopAt _ _ _ _ _ _ = r; revert r
  refine loop_list ws (fun pre _ => [(19, .int .i64 pre.length)]) (fun _ _ => []) (fun _ (_ : Unit) => True) () (by omega) (by simp (maxSteps := 1000000) (implicitDefEqProofs := false) only [ss, List.replicate, evOp, evPlain, evVal, evMem, St.eval, St.put, St.get, constV, List.set, lenV, sliceOf, arrayOf, fieldsOf, normOf, norm, firstRegion, look, maskFrom, evBin, evIndexS, evLoad, evVar, evStore, evFieldAddr, nameOf, St.alloc, St.drop, killL, kill, killAll, killObs, killOb, upd, cells?, part, retag, retagL, putIn, refFree, refFreeL, isNew, isNewL, Ty.isAgg, splice, idsL, ids, idsLL, reach, depth, St.dropL, resultsV, resultV, ↓reduceIte, Nat.reduceBEq, Nat.reduceAdd, Nat.reduceSub, Nat.reduceMul, Nat.reduceEqDiff, Nat.reduceLeDiff, Nat.reduceLT, effOf, effMem, effStore, effCall, effVar, effLit, effMake, effApp, Eff.ap, lend, evLit, evMake, evNil, freeze, onto, dropO, elemsV, sized, evCmp, eqT, eqG, minV, evUn, evField, evExtract, evIndexA, evIndexV, evSlice, optInt, fillV, placeOf, thawed, del, isNilSlice, plain, plainL, cellsJ, junkOk, St.with, setSlots, setObs, wantedD, seqOf, noRange, setAll, Array.size, te, einl, inls]) trivial (fun _ _ => ?_) (fun pre x post _ hp _ g1 g2 g3 g4 => ?_)
  · simp (maxSteps := 1000000) (implicitDefEqProofs := false) only [Int.lt_irrefl, bne_self_eq_false, beq_self_eq_true, hB, hok, evRegion_st, Try.ntmps10, Try.results10, efc10, fc10, c17, ss, List.replicate, evOp, evPlain, evVal, evMem, St.eval, St.put, St.get, constV, List.set, lenV, sliceOf, arrayOf, fieldsOf, normOf, norm, firstRegion, look, maskFrom, evBin, evIndexS, evLoad, evVar, evStore, evFieldAddr, nameOf, St.alloc, St.drop, killL, kill, killAll, killObs, killOb, upd, cells?, part, retag, retagL, putIn, refFree, refFreeL, isNew, isNewL, Ty.isAgg, splice, idsL, ids, idsLL, reach, depth, St.dropL, resultsV, resultV, ↓reduceIte, Nat.reduceBEq, Nat.reduceAdd, Nat.reduceSub, Nat.reduceMul, Nat.reduceEqDiff, Nat.reduceLeDiff, Nat.reduceLT, effOf, effMem, effStore, effCall, effVar, effLit, effMake, effApp, Eff.ap, lend, evLit, evMake, evNil, freeze, onto, dropO, elemsV, sized, evCmp, eqT, eqG, minV, evUn, evField, evExtract, evIndexA, evIndexV, evSlice, optInt, fillV, placeOf, thawed, del, isNilSlice, plain, plainL, cellsJ, junkOk, St.with, setSlots, setObs, wantedD, seqOf, noRange, setAll, Array.size, te, einl, inls]
  · simp (maxSteps := 1000000) (implicitDefEqProofs := false) only [g1, g2, g3, g4, Int.natCast_nonneg, Int.toNat_natCast, List.getElem?_map, encSp, hok, evRegion_st, bne_self_eq_false, beq_self_eq_true, ss, List.replicate, evOp, evPlain, evVal, evMem, St.eval, St.put, St.get, constV, List.set, lenV, sliceOf, arrayOf, fieldsOf, normOf, norm, firstRegion, look, maskFrom, evBin, evIndexS, evLoad, evVar, evStore, evFieldAddr, nameOf, St.alloc, St.drop, killL, kill, killAll, killObs, killOb, upd, cells?, part, retag, retagL, putIn, refFree, refFreeL, isNew, isNewL, Ty.isAgg, splice, idsL, ids, idsLL, reach, depth, St.dropL, resultsV, resultV, ↓reduceIte, Nat.reduceBEq, Nat.reduceAdd, Nat.reduceSub, Nat.reduceMul, Nat.reduceEqDiff, Nat.reduceLeDiff, Nat.reduceLT, effOf, effMem, effStore, effCall, effVar, effLit, effMake, effApp, Eff.ap, lend, evLit, evMake, evNil, freeze, onto, dropO, elemsV, sized, evCmp, eqT, eqG, minV, evUn, evField, evExtract, evIndexA, evIndexV, evSlice, optInt, fillV, placeOf, thawed, del, isNilSlice, plain, plainL, cellsJ, junkOk, St.with, setSlots, setObs, wantedD, seqOf, noRange, setAll, Array.size, te, einl, inls]
    (first | exact ⟨(), trivial⟩ | refine ⟨(), ?_, trivial⟩ | skip)

end Go.AM.A
end
