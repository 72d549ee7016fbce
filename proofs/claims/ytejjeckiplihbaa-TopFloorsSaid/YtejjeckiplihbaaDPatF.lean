/-
Patterns: the table of a lattice.
-/
import Derived.Test.YtejjeckiplihbaaDPatG
import Derived.Test.YtejjeckiplihbaaAmBad
set_option linter.unusedSimpArgs false
set_option maxRecDepth 20000

namespace Go.AM.D
open Go Go.AM Go.Proofs

def cellsP (p : Pat) (y n : Nat) : List Int := (List.range n).map fun (x : Nat) => colP p x y
def rowsP (p : Pat) (w n : Nat) : List Int := (List.range n).flatMap fun y => cellsP p y w
theorem cellsP_succ (p : Pat) (y n : Nat) : cellsP p y (n + 1) = cellsP p y n ++ [colP p n y] := by
  unfold cellsP
  rw [List.range_succ, List.map_append]
  rfl
theorem rowsP_succ (p : Pat) (w n : Nat) : rowsP p w (n + 1) = rowsP p w n ++ cellsP p n w := by
  unfold rowsP
  rw [List.range_succ, List.flatMap_append]
  simp
theorem cellsP_len (p : Pat) (y n : Nat) : (cellsP p y n).length = n := by simp [cellsP]
theorem rowsP_len (p : Pat) (w n : Nat) : (rowsP p w n).length = n * w := by
  induction n with
  | zero => simp [rowsP]
  | succ n ih => rw [rowsP_succ, List.length_append, ih, cellsP_len, Nat.succ_mul]
def patObs (w s h : Int) : List Int → List (Nat × Ob)
  | [] => [(9, { es := 4, flat := true, t := true, app := false, elems := [.agg [.int .i64 w, .int .i64 s, .int .i64 h, .emp]] })]
  | c :: r => [(9, { es := 4, flat := false, t := true, app := false, elems := [.agg [.int .i64 w, .int .i64 s, .int .i64 h, .own 32 0 (r.length + 1)]] }), (32, { es := 1, flat := true, t := true, app := true, elems := (c :: r).map vI })]
theorem patObs_cons (w s h : Int) {l : List Int} (hl : ¬ l = []) : patObs w s h l = [(9, { es := 4, flat := false, t := true, app := false, elems := [.agg [.int .i64 w, .int .i64 s, .int .i64 h, .own 32 0 l.length]] }), (32, { es := 1, flat := true, t := true, app := true, elems := l.map vI })] := by
  cases l with
  | nil => exact absurd rfl hl
  | cons c r => rfl

theorem inf138 : (drawn (Try.f138.body.getD .skip)).map infosOf = [[([], false), ([], false), ([], false), ([], false), ([], false), ([], false), ([], false), ([1], false), ([], true), ([], true), ([], true)]] := by decide +kernel
theorem okD138 : (drawn (Try.f138.body.getD .skip)).all okBad = true := by decide +kernel

set_option maxHeartbeats 8000000 in
theorem c138 (p : Pat) (w h : Nat) (s : Int) (hp : PatOk p) (hw : 1 ≤ w ∧ w ≤ 144) (hh : 1 ≤ h ∧ h ≤ 144) :
    (orcω E X0).call 138 [planeP false p, .int .i64 w, .int .i64 s, .int .i64 h] = some (.agg [.int .i64 w, .int .i64 s, .int .i64 h, .sl true ((rowsP p w h).map vI)]) := by
  refine call_of rfl fn138 rfl ?_
  have hi := inf138
  have ho := okD138
  simp only [Try.f138, Option.getD_some, drawn, List.map_cons, List.map_nil, List.nil_append, List.append_nil, List.cons_append, List.cons.injEq, and_true] at hi
  simp only [Try.f138, Option.getD_some, drawn, List.nil_append, List.append_nil, List.cons_append, List.all_cons, List.all_nil, Bool.and_true, Bool.and_eq_true] at ho
  have k1 := fun x y hx hy => c136 p x y hp hx hy
  unfold planeP at *
  simp (maxSteps := 1000000) (implicitDefEqProofs := false) only [Try.ntmps138, Try.results138, efc138, fc138, ss, sd, evOp, evPlain, evVal, evMem, St.get, sliceOf, arrayOf, fieldsOf, normOf, norm, look, evVar, evFieldAddr, nameOf, St.alloc, St.drop, killOb, part, splice, depth, resultsV, ↓reduceIte, Nat.reduceBEq, Nat.reduceAdd, Nat.reduceSub, Nat.reduceMul, Nat.reduceEqDiff, Nat.reduceLeDiff, Nat.reduceLT, effOf, effMem, effVar, effLit, effMake, effApp, lend, evLit, evNil, freeze, evField, evIndexT, orNil, evSlice, placeOf, evMap, mapOf, keyOk, evFrame, closed, fixed, sameEs, wit, Option.isSome_some, St.with, wantedD, Array.size, te, einl, inls, efr]
  generalize hr : loopAt _ _ _ _ _ _ = r; revert r
  refine loop_nat h (fun i _ => [(17, .int .i64 (i : Nat))]) (fun i _ => patObs w s h (rowsP p w i)) (fun _ (_ : Unit) => True) () (by omega) (by simp (maxSteps := 1000000) (implicitDefEqProofs := false) only [patObs, rowsP, Int.natCast_zero, ss, sd, evOp, evPlain, evVal, evMem, St.get, sliceOf, arrayOf, fieldsOf, normOf, norm, look, evVar, evFieldAddr, nameOf, St.alloc, St.drop, killOb, part, splice, depth, resultsV, ↓reduceIte, Nat.reduceBEq, Nat.reduceAdd, Nat.reduceSub, Nat.reduceMul, Nat.reduceEqDiff, Nat.reduceLeDiff, Nat.reduceLT, effOf, effMem, effVar, effLit, effMake, effApp, lend, evLit, evNil, freeze, evField, evIndexT, orNil, evSlice, placeOf, evMap, mapOf, keyOk, evFrame, closed, fixed, sameEs, wit, Option.isSome_some, St.with, wantedD, Array.size, te, einl, inls, efr]) trivial (fun _ _ => ?_) (fun i _ _ a1 a2 a3 => ?_)
  · have hl : ¬ rowsP p w h = [] := fun e => by
      have := rowsP_len p w h
      rw [e] at this
      have := Nat.mul_pos (show 0 < h by omega) (show 0 < w by omega)
      simp at *
      omega
    rw [patObs_cons _ _ _ hl]
    generalize rowsP p w h = l at *
    have tz : (l.map vI).take l.length = l.map vI := List.take_of_length_le (by simp)
    simp (maxSteps := 1000000) (implicitDefEqProofs := false) only [Int.lt_irrefl, tz, List.length_map, Try.ntmps138, Try.results138, efc138, fc138, ss, sd, evOp, evPlain, evVal, evMem, St.get, sliceOf, arrayOf, fieldsOf, normOf, norm, look, evVar, evFieldAddr, nameOf, St.alloc, St.drop, killOb, part, splice, depth, resultsV, ↓reduceIte, Nat.reduceBEq, Nat.reduceAdd, Nat.reduceSub, Nat.reduceMul, Nat.reduceEqDiff, Nat.reduceLeDiff, Nat.reduceLT, effOf, effMem, effVar, effLit, effMake, effApp, lend, evLit, evNil, freeze, evField, evIndexT, orNil, evSlice, placeOf, evMap, mapOf, keyOk, evFrame, closed, fixed, sameEs, wit, Option.isSome_some, St.with, wantedD, Array.size, te, einl, inls, efr]
  · have hlen := rowsP_len p w i
    have hmul : i * w ≤ 144 * 144 := Nat.mul_le_mul (by omega) (by omega)
    have hs := rowsP_succ p w i
    have hl0 := fun j => cellsP_succ p i j
    have hl1 := fun j => cellsP_len p i j
    generalize rowsP p w (i + 1) = l1 at *
    generalize hR : rowsP p w i = l0 at *
    have hne : ¬ l1 = [] := fun e => by
      have q := congrArg List.length hs
      rw [e, List.length_append, hl1 w, List.length_nil] at q
      omega
    rw [patObs_cons _ _ _ hne]
    by_cases h0 : l0 = []
    · subst h0
      simp (maxSteps := 1000000) (implicitDefEqProofs := false) only [a2, a3, patObs, ss, sd, evOp, evPlain, evVal, evMem, St.get, sliceOf, arrayOf, fieldsOf, normOf, norm, look, evVar, evFieldAddr, nameOf, St.alloc, St.drop, killOb, part, splice, depth, resultsV, ↓reduceIte, Nat.reduceBEq, Nat.reduceAdd, Nat.reduceSub, Nat.reduceMul, Nat.reduceEqDiff, Nat.reduceLeDiff, Nat.reduceLT, effOf, effMem, effVar, effLit, effMake, effApp, lend, evLit, evNil, freeze, evField, evIndexT, orNil, evSlice, placeOf, evMap, mapOf, keyOk, evFrame, closed, fixed, sameEs, wit, Option.isSome_some, St.with, wantedD, Array.size, te, einl, inls, efr]
      generalize hr : loopAt _ _ _ _ _ _ = r; revert r
      refine loop_nat w (fun j _ => [(21, .int .i64 (j : Nat))]) (fun j _ => patObs w s h ([] ++ cellsP p i j)) (fun _ (_ : Unit) => True) () (by omega) (by simp (maxSteps := 1000000) (implicitDefEqProofs := false) only [show cellsP p i 0 = [] from rfl, patObs, List.append_nil, Int.natCast_zero, ss, sd, evOp, evPlain, evVal, evMem, St.get, sliceOf, arrayOf, fieldsOf, normOf, norm, look, evVar, evFieldAddr, nameOf, St.alloc, St.drop, killOb, part, splice, depth, resultsV, ↓reduceIte, Nat.reduceBEq, Nat.reduceAdd, Nat.reduceSub, Nat.reduceMul, Nat.reduceEqDiff, Nat.reduceLeDiff, Nat.reduceLT, effOf, effMem, effVar, effLit, effMake, effApp, lend, evLit, evNil, freeze, evField, evIndexT, orNil, evSlice, placeOf, evMap, mapOf, keyOk, evFrame, closed, fixed, sameEs, wit, Option.isSome_some, St.with, wantedD, Array.size, te, einl, inls, efr]) trivial (fun _ _ => ?_) (fun j _ _ b1 b2 b3 => ?_)
      · rw [← hs, patObs_cons _ _ _ hne]
        simp (maxSteps := 1000000) (implicitDefEqProofs := false) only [Int.lt_irrefl, a3, ss, sd, evOp, evPlain, evVal, evMem, St.get, sliceOf, arrayOf, fieldsOf, normOf, norm, look, evVar, evFieldAddr, nameOf, St.alloc, St.drop, killOb, part, splice, depth, resultsV, ↓reduceIte, Nat.reduceBEq, Nat.reduceAdd, Nat.reduceSub, Nat.reduceMul, Nat.reduceEqDiff, Nat.reduceLeDiff, Nat.reduceLT, effOf, effMem, effVar, effLit, effMake, effApp, lend, evLit, evNil, freeze, evField, evIndexT, orNil, evSlice, placeOf, evMap, mapOf, keyOk, evFrame, closed, fixed, sameEs, wit, Option.isSome_some, St.with, wantedD, Array.size, te, einl, inls, efr]
        (first | exact ⟨(), trivial⟩ | refine ⟨(), ?_, trivial⟩ | skip)
      · have m1 := k1 j i (by omega) (by omega)
        have hc := hl0 j
        have hc1 := hl1 j
        generalize colP p (j : Int) (i : Int) = c at *
        rw [hc, ← List.append_assoc]
        generalize hL : [] ++ cellsP p i j = l at *
        have hll : l.length ≤ 30000 := by rw [← hL, List.length_append]; omega
        by_cases hn : l = []
        · subst hn
          rw [patObs_cons _ _ _ (show ¬ [] ++ [c] = [] by simp)]
          have q5 : roomy 1 8 = true := by decide
          simp (maxSteps := 1000000) (implicitDefEqProofs := false) only [b2, b3, m1, q5, vI, patObs, regT ho hi, evBT_nil, evBT_cons, effT_true, effT_false, effT2_some, effT2_none, calmT, free, Eff.writes, supp, isBar, Option.toList_some, Option.toList_none, List.nil_append, List.length_nil, Nat.zero_add, Int.le_refl, Int.natCast_nonneg, Int.toNat_natCast, ss, sd, evOp, evPlain, evVal, evMem, St.get, sliceOf, arrayOf, fieldsOf, normOf, norm, look, evVar, evFieldAddr, nameOf, St.alloc, St.drop, killOb, part, splice, depth, resultsV, ↓reduceIte, Nat.reduceBEq, Nat.reduceAdd, Nat.reduceSub, Nat.reduceMul, Nat.reduceEqDiff, Nat.reduceLeDiff, Nat.reduceLT, effOf, effMem, effVar, effLit, effMake, effApp, lend, evLit, evNil, freeze, evField, evIndexT, orNil, evSlice, placeOf, evMap, mapOf, keyOk, evFrame, closed, fixed, sameEs, wit, Option.isSome_some, St.with, wantedD, Array.size, te, einl, inls, efr]
          (first | exact ⟨(), trivial⟩ | refine ⟨(), ?_, trivial⟩ | skip)
        · rw [patObs_cons _ _ _ hn, patObs_cons _ _ _ (show ¬ l ++ [c] = [] by simp)]
          have e1 : (l ++ [c]).map vI = l.map vI ++ [.int .i64 c] := by rw [List.map_append]; rfl
          have e2 : (l ++ [c]).length = l.length + 1 := by simp
          have hroom : roomy (l.length + 1) 8 = true := by simp [roomy]; omega
          have hbig : l.length + 1 ≤ 4294967296 := by omega
          have z2 : sized 1 (l.map vI) = true := sized_vI _
          rw [e1, e2]
          simp (maxSteps := 1000000) (implicitDefEqProofs := false) only [b2, b3, m1, hroom, hbig, z2, regT ho hi, evBT_nil, evBT_cons, effT_true, effT_false, effT2_some, effT2_none, calmT, free, Eff.writes, supp, isBar, Option.toList_some, Option.toList_none, List.length_map, Int.natCast_nonneg, Int.toNat_natCast, ss, sd, evOp, evPlain, evVal, evMem, St.get, sliceOf, arrayOf, fieldsOf, normOf, norm, look, evVar, evFieldAddr, nameOf, St.alloc, St.drop, killOb, part, splice, depth, resultsV, ↓reduceIte, Nat.reduceBEq, Nat.reduceAdd, Nat.reduceSub, Nat.reduceMul, Nat.reduceEqDiff, Nat.reduceLeDiff, Nat.reduceLT, effOf, effMem, effVar, effLit, effMake, effApp, lend, evLit, evNil, freeze, evField, evIndexT, orNil, evSlice, placeOf, evMap, mapOf, keyOk, evFrame, closed, fixed, sameEs, wit, Option.isSome_some, St.with, wantedD, Array.size, te, einl, inls, efr]
          (first | exact ⟨(), trivial⟩ | refine ⟨(), ?_, trivial⟩ | skip)
    · rw [patObs_cons _ _ _ h0]
      simp (maxSteps := 1000000) (implicitDefEqProofs := false) only [a2, a3, ss, sd, evOp, evPlain, evVal, evMem, St.get, sliceOf, arrayOf, fieldsOf, normOf, norm, look, evVar, evFieldAddr, nameOf, St.alloc, St.drop, killOb, part, splice, depth, resultsV, ↓reduceIte, Nat.reduceBEq, Nat.reduceAdd, Nat.reduceSub, Nat.reduceMul, Nat.reduceEqDiff, Nat.reduceLeDiff, Nat.reduceLT, effOf, effMem, effVar, effLit, effMake, effApp, lend, evLit, evNil, freeze, evField, evIndexT, orNil, evSlice, placeOf, evMap, mapOf, keyOk, evFrame, closed, fixed, sameEs, wit, Option.isSome_some, St.with, wantedD, Array.size, te, einl, inls, efr]
      generalize hr : loopAt _ _ _ _ _ _ = r; revert r
      refine loop_nat w (fun j _ => [(21, .int .i64 (j : Nat))]) (fun j _ => patObs w s h (l0 ++ cellsP p i j)) (fun _ (_ : Unit) => True) () (by omega) (by rw [show cellsP p i 0 = [] from rfl, List.append_nil, patObs_cons _ _ _ h0]; simp (maxSteps := 1000000) (implicitDefEqProofs := false) only [Int.natCast_zero, ss, sd, evOp, evPlain, evVal, evMem, St.get, sliceOf, arrayOf, fieldsOf, normOf, norm, look, evVar, evFieldAddr, nameOf, St.alloc, St.drop, killOb, part, splice, depth, resultsV, ↓reduceIte, Nat.reduceBEq, Nat.reduceAdd, Nat.reduceSub, Nat.reduceMul, Nat.reduceEqDiff, Nat.reduceLeDiff, Nat.reduceLT, effOf, effMem, effVar, effLit, effMake, effApp, lend, evLit, evNil, freeze, evField, evIndexT, orNil, evSlice, placeOf, evMap, mapOf, keyOk, evFrame, closed, fixed, sameEs, wit, Option.isSome_some, St.with, wantedD, Array.size, te, einl, inls, efr]) trivial (fun _ _ => ?_) (fun j _ _ b1 b2 b3 => ?_)
      · rw [← hs, patObs_cons _ _ _ hne]
        simp (maxSteps := 1000000) (implicitDefEqProofs := false) only [Int.lt_irrefl, a3, ss, sd, evOp, evPlain, evVal, evMem, St.get, sliceOf, arrayOf, fieldsOf, normOf, norm, look, evVar, evFieldAddr, nameOf, St.alloc, St.drop, killOb, part, splice, depth, resultsV, ↓reduceIte, Nat.reduceBEq, Nat.reduceAdd, Nat.reduceSub, Nat.reduceMul, Nat.reduceEqDiff, Nat.reduceLeDiff, Nat.reduceLT, effOf, effMem, effVar, effLit, effMake, effApp, lend, evLit, evNil, freeze, evField, evIndexT, orNil, evSlice, placeOf, evMap, mapOf, keyOk, evFrame, closed, fixed, sameEs, wit, Option.isSome_some, St.with, wantedD, Array.size, te, einl, inls, efr]
        (first | exact ⟨(), trivial⟩ | refine ⟨(), ?_, trivial⟩ | skip)
      · have m1 := k1 j i (by omega) (by omega)
        have hc := hl0 j
        have hc1 := hl1 j
        generalize colP p (j : Int) (i : Int) = c at *
        rw [hc, ← List.append_assoc]
        generalize hL : l0 ++ cellsP p i j = l at *
        have hll : l.length ≤ 30000 := by rw [← hL, List.length_append]; omega
        by_cases hn : l = []
        · subst hn
          exact absurd (List.append_eq_nil_iff.1 hL).1 h0
        · rw [patObs_cons _ _ _ hn, patObs_cons _ _ _ (show ¬ l ++ [c] = [] by simp)]
          have e1 : (l ++ [c]).map vI = l.map vI ++ [.int .i64 c] := by rw [List.map_append]; rfl
          have e2 : (l ++ [c]).length = l.length + 1 := by simp
          have hroom : roomy (l.length + 1) 8 = true := by simp [roomy]; omega
          have hbig : l.length + 1 ≤ 4294967296 := by omega
          have z2 : sized 1 (l.map vI) = true := sized_vI _
          rw [e1, e2]
          simp (maxSteps := 1000000) (implicitDefEqProofs := false) only [b2, b3, m1, hroom, hbig, z2, regT ho hi, evBT_nil, evBT_cons, effT_true, effT_false, effT2_some, effT2_none, calmT, free, Eff.writes, supp, isBar, Option.toList_some, Option.toList_none, List.length_map, Int.natCast_nonneg, Int.toNat_natCast, ss, sd, evOp, evPlain, evVal, evMem, St.get, sliceOf, arrayOf, fieldsOf, normOf, norm, look, evVar, evFieldAddr, nameOf, St.alloc, St.drop, killOb, part, splice, depth, resultsV, ↓reduceIte, Nat.reduceBEq, Nat.reduceAdd, Nat.reduceSub, Nat.reduceMul, Nat.reduceEqDiff, Nat.reduceLeDiff, Nat.reduceLT, effOf, effMem, effVar, effLit, effMake, effApp, lend, evLit, evNil, freeze, evField, evIndexT, orNil, evSlice, placeOf, evMap, mapOf, keyOk, evFrame, closed, fixed, sameEs, wit, Option.isSome_some, St.with, wantedD, Array.size, te, einl, inls, efr]
          (first | exact ⟨(), trivial⟩ | refine ⟨(), ?_, trivial⟩ | skip)
end Go.AM.D
