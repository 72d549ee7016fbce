/-
FloorPlane: the pattern of the plane across all seams.
-/
import Derived.Test.YtejjeckiplihbaaDPlaneP
import Derived.Test.YtejjeckiplihbaaDMine
import Derived.Test.YtejjeckiplihbaaDSaneB
import Derived.Test.YtejjeckiplihbaaDLayV
set_option linter.unusedSimpArgs false
set_option maxRecDepth 20000

namespace Go.AM.D
open Go Go.AM Go.Proofs

theorem fewV_formP (j : Job) : ∃ (l : List Cut) (a : Int) (b : Bool) (c : Int), fewV j = .tup [.sl true (l.map encCut), .int .i64 a, .bool b, .int .i64 c] ∧ (b = true → c = 0 → jobE j = 0 ∧ ∃ n, fewM j = some (l, n)) := by
  unfold fewV
  by_cases hje : jobE j = 0
  · rw [if_neg (fun h => h hje)]
    cases hf : fewM j with
    | none => exact ⟨[], _, _, _, rfl, fun h => by cases h⟩
    | some p => exact ⟨p.1, _, _, _, rfl, fun _ _ => ⟨hje, p.2, rfl⟩⟩
  · rw [if_pos hje]
    exact ⟨[], _, _, _, rfl, fun h => by cases h⟩
theorem okT10 : okCode (Try.f10.body.getD .skip) = true := by decide +kernel
set_option maxRecDepth 20000 in
set_option maxHeartbeats 16000000 in
theorem c10 (r : Room) (l : Lay) (o : Int) : (orcω E X0).call 10 [encRoom r, encLay l, .int .i64 o] = some (.bool true) := by
  refine call_of rfl fn10 rfl ?_
  have hok := okT10
  simp only [Try.f10, Option.getD_some, okCode, Bool.and_eq_true, Bool.and_true, Bool.true_and] at hok
  have k0 := c17
  have k1 := c16 r []
  obtain ⟨p, w, j, cuts⟩ := l
  unfold encLay
  dsimp only
  cases hmany : manyM r [] with
  | true =>
    rw [hmany] at k1
    unfold encRoom at *
    simp only [List.map_nil] at k1
    simp (maxSteps := 1000000) (implicitDefEqProofs := false) only [Try.ntmps10, Try.results10, efc10, fc10, k0, k1, ss, sd, evOp, evPlain, evVal, evMem, St.get, sliceOf, arrayOf, fieldsOf, normOf, norm, look, evVar, evFieldAddr, nameOf, St.alloc, St.drop, killOb, part, splice, depth, resultsV, ↓reduceIte, Nat.reduceBEq, Nat.reduceAdd, Nat.reduceSub, Nat.reduceMul, Nat.reduceEqDiff, Nat.reduceLeDiff, Nat.reduceLT, effOf, effMem, effVar, effLit, effMake, effApp, lend, evLit, evNil, freeze, evField, evIndexT, orNil, evSlice, placeOf, evMap, mapOf, keyOk, evFrame, closed, fixed, sameEs, wit, Option.isSome_some, St.with, wantedD, Array.size, te, einl, inls, efr]
  | false =>
  rw [hmany] at k1
  simp only [List.map_nil] at k1
  unfold manyM at hmany
  simp at hmany
  by_cases h40 : (40 : Int) < cuts.length
  · unfold encRoom at *
    simp (maxSteps := 1000000) (implicitDefEqProofs := false) only [Try.ntmps10, Try.results10, efc10, fc10, k0, k1, h40, List.length_map, ss, sd, evOp, evPlain, evVal, evMem, St.get, sliceOf, arrayOf, fieldsOf, normOf, norm, look, evVar, evFieldAddr, nameOf, St.alloc, St.drop, killOb, part, splice, depth, resultsV, ↓reduceIte, Nat.reduceBEq, Nat.reduceAdd, Nat.reduceSub, Nat.reduceMul, Nat.reduceEqDiff, Nat.reduceLeDiff, Nat.reduceLT, effOf, effMem, effVar, effLit, effMake, effApp, lend, evLit, evNil, freeze, evField, evIndexT, orNil, evSlice, placeOf, evMap, mapOf, keyOk, evFrame, closed, fixed, sameEs, wit, Option.isSome_some, St.with, wantedD, Array.size, te, einl, inls, efr]
  by_cases h1000 : (1000 : Int) < p.cs.length
  · unfold encRoom at *
    simp (maxSteps := 1000000) (implicitDefEqProofs := false) only [Try.ntmps10, Try.results10, efc10, fc10, k0, k1, h40, h1000, List.length_map, ss, sd, evOp, evPlain, evVal, evMem, St.get, sliceOf, arrayOf, fieldsOf, normOf, norm, look, evVar, evFieldAddr, nameOf, St.alloc, St.drop, killOb, part, splice, depth, resultsV, ↓reduceIte, Nat.reduceBEq, Nat.reduceAdd, Nat.reduceSub, Nat.reduceMul, Nat.reduceEqDiff, Nat.reduceLeDiff, Nat.reduceLT, effOf, effMem, effVar, effLit, effMake, effApp, lend, evLit, evNil, freeze, evField, evIndexT, orNil, evSlice, placeOf, evMap, mapOf, keyOk, evFrame, closed, fixed, sameEs, wit, Option.isSome_some, St.with, wantedD, Array.size, te, einl, inls, efr]
  have k2 := c42 p (by omega)
  by_cases hpat : patE p = 0
  rotate_left
  · have q1 : (patE p != 0) = true := by simpa using hpat
    unfold encRoom encPat at *
    simp (maxSteps := 1000000) (implicitDefEqProofs := false) only [Try.ntmps10, Try.results10, efc10, fc10, k0, k1, k2, h40, h1000, q1, List.length_map, ss, sd, evOp, evPlain, evVal, evMem, St.get, sliceOf, arrayOf, fieldsOf, normOf, norm, look, evVar, evFieldAddr, nameOf, St.alloc, St.drop, killOb, part, splice, depth, resultsV, ↓reduceIte, Nat.reduceBEq, Nat.reduceAdd, Nat.reduceSub, Nat.reduceMul, Nat.reduceEqDiff, Nat.reduceLeDiff, Nat.reduceLT, effOf, effMem, effVar, effLit, effMake, effApp, lend, evLit, evNil, freeze, evField, evIndexT, orNil, evSlice, placeOf, evMap, mapOf, keyOk, evFrame, closed, fixed, sameEs, wit, Option.isSome_some, St.with, wantedD, Array.size, te, einl, inls, efr]
  rw [hpat] at k2
  have k3 := c18 r w o (by omega) (by omega)
  have k4 := c39 ⟨stripsV r w o, j.rs, j.rep⟩
  have k5 := c43 ⟨stripsV r w o, j.rs, j.rep⟩
  obtain ⟨cl, n, ok, e, hfew, hff⟩ := fewV_formP ⟨stripsV r w o, j.rs, j.rep⟩
  rw [hfew] at k5
  unfold encJob at k4 k5
  dsimp only at k4 k5
  by_cases hd : dividedE r w o = 0
  rotate_left
  · have q1 : (dividedE r w o != 0) = true := by simpa using hd
    generalize stripsV r w o = sv at *
    generalize dividedE r w o = de at *
    unfold encRoom encPat at *
    simp (maxSteps := 1000000) (implicitDefEqProofs := false) only [Try.ntmps10, Try.results10, efc10, fc10, k0, k1, k2, k3, k4, k5, h40, h1000, q1, bne_self_eq_false, List.length_map, ss, sd, evOp, evPlain, evVal, evMem, St.get, sliceOf, arrayOf, fieldsOf, normOf, norm, look, evVar, evFieldAddr, nameOf, St.alloc, St.drop, killOb, part, splice, depth, resultsV, ↓reduceIte, Nat.reduceBEq, Nat.reduceAdd, Nat.reduceSub, Nat.reduceMul, Nat.reduceEqDiff, Nat.reduceLeDiff, Nat.reduceLT, effOf, effMem, effVar, effLit, effMake, effApp, lend, evLit, evNil, freeze, evField, evIndexT, orNil, evSlice, placeOf, evMap, mapOf, keyOk, evFrame, closed, fixed, sameEs, wit, Option.isSome_some, St.with, wantedD, Array.size, te, einl, inls, efr]
  by_cases he : e = 0
  rotate_left
  · have q1 : (e != 0) = true := by simpa using he
    rw [hd] at k3
    generalize stripsV r w o = sv at *
    unfold encRoom encPat at *
    simp (maxSteps := 1000000) (implicitDefEqProofs := false) only [Try.ntmps10, Try.results10, efc10, fc10, k0, k1, k2, k3, k4, k5, h40, h1000, q1, bne_self_eq_false, List.length_map, ss, sd, evOp, evPlain, evVal, evMem, St.get, sliceOf, arrayOf, fieldsOf, normOf, norm, look, evVar, evFieldAddr, nameOf, St.alloc, St.drop, killOb, part, splice, depth, resultsV, ↓reduceIte, Nat.reduceBEq, Nat.reduceAdd, Nat.reduceSub, Nat.reduceMul, Nat.reduceEqDiff, Nat.reduceLeDiff, Nat.reduceLT, effOf, effMem, effVar, effLit, effMake, effApp, lend, evLit, evNil, freeze, evField, evIndexT, orNil, evSlice, placeOf, evMap, mapOf, keyOk, evFrame, closed, fixed, sameEs, wit, Option.isSome_some, St.with, wantedD, Array.size, te, einl, inls, efr]
  subst he
  cases ok with
  | false =>
    rw [hd] at k3
    generalize stripsV r w o = sv at *
    unfold encRoom encPat at *
    simp (maxSteps := 1000000) (implicitDefEqProofs := false) only [Try.ntmps10, Try.results10, efc10, fc10, k0, k1, k2, k3, k4, k5, h40, h1000, bne_self_eq_false, List.length_map, ss, sd, evOp, evPlain, evVal, evMem, St.get, sliceOf, arrayOf, fieldsOf, normOf, norm, look, evVar, evFieldAddr, nameOf, St.alloc, St.drop, killOb, part, splice, depth, resultsV, ↓reduceIte, Nat.reduceBEq, Nat.reduceAdd, Nat.reduceSub, Nat.reduceMul, Nat.reduceEqDiff, Nat.reduceLeDiff, Nat.reduceLT, effOf, effMem, effVar, effLit, effMake, effApp, lend, evLit, evNil, freeze, evField, evIndexT, orNil, evSlice, placeOf, evMap, mapOf, keyOk, evFrame, closed, fixed, sameEs, wit, Option.isSome_some, St.with, wantedD, Array.size, te, einl, inls, efr]
  | true =>
  obtain ⟨hje, n0, hfm⟩ := hff rfl rfl
  have hcov := fun x y hx hy hc => laid_plane (x := x) (y := y) hpat hd (j := ⟨stripsV r w o, j.rs, j.rep⟩) rfl hje hfm hx hy hc
  obtain ⟨hacc, _⟩ := accept hje hfm
  have hfit := checkM_zero hacc
  have hcl : cl.length ≤ 6 := by
    have h1 := hfit.len
    have h2 := hfit.job.nss
    omega
  obtain ⟨d1, d2, d3, d4⟩ := dividedE_zero hd
  have k6 := fun x y => c24 r x y (by omega) (by omega)
  have k7 := fun (x : Nat) (hx : x < 60) y => c38 p w ⟨stripsV r w o, j.rs, j.rep⟩ cl x y (by omega) (by omega) (by omega)
  have k8 := fun x y => c44 p x y (by omega)
  have hhas : ∀ x y, hasR r x y = cellM r.rects x y := fun x y => by unfold hasR; rw [d1]; simp
  rw [hd] at k3
  unfold encJob at k7
  dsimp only at k7
  simp only [hhas, d1] at k6
  generalize stripsV r w o = sv at *
  unfold encRoom encPat at *
  simp (maxSteps := 1000000) (implicitDefEqProofs := false) only [Try.ntmps10, Try.results10, efc10, fc10, k0, k1, k2, k3, k4, k5, h40, h1000, bne_self_eq_false, List.length_map, ss, sd, evOp, evPlain, evVal, evMem, St.get, sliceOf, arrayOf, fieldsOf, normOf, norm, look, evVar, evFieldAddr, nameOf, St.alloc, St.drop, killOb, part, splice, depth, resultsV, ↓reduceIte, Nat.reduceBEq, Nat.reduceAdd, Nat.reduceSub, Nat.reduceMul, Nat.reduceEqDiff, Nat.reduceLeDiff, Nat.reduceLT, effOf, effMem, effVar, effLit, effMake, effApp, lend, evLit, evNil, freeze, evField, evIndexT, orNil, evSlice, placeOf, evMap, mapOf, keyOk, evFrame, closed, fixed, sameEs, wit, Option.isSome_some, St.with, wantedD, Array.size, te, einl, inls, efr]
  generalize hr : loopAt _ _ _ _ _ _ = r; revert r
  refine loop_inv (ι := { y : Nat // y ≤ 62 }) (fun y => [(14, .int .i64 (y.1 : Nat))]) (fun _ => []) (fun y => 63 - y.1) ⟨0, by omega⟩ (by simp (maxSteps := 1000000) (implicitDefEqProofs := false) only [Int.natCast_zero, ss, sd, evOp, evPlain, evVal, evMem, St.get, sliceOf, arrayOf, fieldsOf, normOf, norm, look, evVar, evFieldAddr, nameOf, St.alloc, St.drop, killOb, part, splice, depth, resultsV, ↓reduceIte, Nat.reduceBEq, Nat.reduceAdd, Nat.reduceSub, Nat.reduceMul, Nat.reduceEqDiff, Nat.reduceLeDiff, Nat.reduceLT, effOf, effMem, effVar, effLit, effMake, effApp, lend, evLit, evNil, freeze, evField, evIndexT, orNil, evSlice, placeOf, evMap, mapOf, keyOk, evFrame, closed, fixed, sameEs, wit, Option.isSome_some, St.with, wantedD, Array.size, te, einl, inls, efr]) ?_
  rintro ⟨y, hy⟩
  dsimp only
  by_cases y60 : y < 60
  rotate_left
  · have yn : ¬ (y : Int) < 60 := by omega
    simp (maxSteps := 1000000) (implicitDefEqProofs := false) only [yn, k0, Try.ntmps10, Try.results10, efc10, fc10, ss, sd, evOp, evPlain, evVal, evMem, St.get, sliceOf, arrayOf, fieldsOf, normOf, norm, look, evVar, evFieldAddr, nameOf, St.alloc, St.drop, killOb, part, splice, depth, resultsV, ↓reduceIte, Nat.reduceBEq, Nat.reduceAdd, Nat.reduceSub, Nat.reduceMul, Nat.reduceEqDiff, Nat.reduceLeDiff, Nat.reduceLT, effOf, effMem, effVar, effLit, effMake, effApp, lend, evLit, evNil, freeze, evField, evIndexT, orNil, evSlice, placeOf, evMap, mapOf, keyOk, evFrame, closed, fixed, sameEs, wit, Option.isSome_some, St.with, wantedD, Array.size, te, einl, inls, efr]
  have yn : (y : Int) < 60 := by omega
  have w1 : IntKind.i64.wrap ((y : Int) + 3) = ((y + 3 : Nat) : Int) := by rw [wrap_in (by omega)]; omega
  have e5 : (y : Int).tmod 5 = ((y % 5 : Nat) : Int) := by rw [Int.tmod_eq_emod_of_nonneg (by omega)]; rfl
  have w2 : IntKind.i64.wrap ((y % 5 : Nat) : Int) = ((y % 5 : Nat) : Int) := wrap_in (by omega)
  have n5 : ¬ (5 : Int) = 0 := by decide
  simp (maxSteps := 1000000) (implicitDefEqProofs := false) only [yn, e5, w2, n5, ne_eq, not_false_eq_true, ss, sd, evOp, evPlain, evVal, evMem, St.get, sliceOf, arrayOf, fieldsOf, normOf, norm, look, evVar, evFieldAddr, nameOf, St.alloc, St.drop, killOb, part, splice, depth, resultsV, ↓reduceIte, Nat.reduceBEq, Nat.reduceAdd, Nat.reduceSub, Nat.reduceMul, Nat.reduceEqDiff, Nat.reduceLeDiff, Nat.reduceLT, effOf, effMem, effVar, effLit, effMake, effApp, lend, evLit, evNil, freeze, evField, evIndexT, orNil, evSlice, placeOf, evMap, mapOf, keyOk, evFrame, closed, fixed, sameEs, wit, Option.isSome_some, St.with, wantedD, Array.size, te, einl, inls, efr]
  generalize hr : loopAt _ _ _ _ _ _ = r; revert r
  refine loop_inv (ι := { x : Nat // x ≤ 64 }) (fun x => [(15, .int .i64 (x.1 : Nat))]) (fun _ => []) (fun x => 65 - x.1) ⟨y % 5, by omega⟩ (by simp (maxSteps := 1000000) (implicitDefEqProofs := false) only [ss, sd, evOp, evPlain, evVal, evMem, St.get, sliceOf, arrayOf, fieldsOf, normOf, norm, look, evVar, evFieldAddr, nameOf, St.alloc, St.drop, killOb, part, splice, depth, resultsV, ↓reduceIte, Nat.reduceBEq, Nat.reduceAdd, Nat.reduceSub, Nat.reduceMul, Nat.reduceEqDiff, Nat.reduceLeDiff, Nat.reduceLT, effOf, effMem, effVar, effLit, effMake, effApp, lend, evLit, evNil, freeze, evField, evIndexT, orNil, evSlice, placeOf, evMap, mapOf, keyOk, evFrame, closed, fixed, sameEs, wit, Option.isSome_some, St.with, wantedD, Array.size, te, einl, inls, efr]) ?_
  rintro ⟨x, hx⟩
  dsimp only
  by_cases x60 : x < 60
  rotate_left
  · have xn : ¬ (x : Int) < 60 := by omega
    simp (maxSteps := 1000000) (implicitDefEqProofs := false) only [xn, w1, ss, sd, evOp, evPlain, evVal, evMem, St.get, sliceOf, arrayOf, fieldsOf, normOf, norm, look, evVar, evFieldAddr, nameOf, St.alloc, St.drop, killOb, part, splice, depth, resultsV, ↓reduceIte, Nat.reduceBEq, Nat.reduceAdd, Nat.reduceSub, Nat.reduceMul, Nat.reduceEqDiff, Nat.reduceLeDiff, Nat.reduceLT, effOf, effMem, effVar, effLit, effMake, effApp, lend, evLit, evNil, freeze, evField, evIndexT, orNil, evSlice, placeOf, evMap, mapOf, keyOk, evFrame, closed, fixed, sameEs, wit, Option.isSome_some, St.with, wantedD, Array.size, te, einl, inls, efr]
    exact ⟨⟨y + 3, by omega⟩, by first | rfl | simp, by dsimp only; omega⟩
  have xn : (x : Int) < 60 := by omega
  have w3 : IntKind.i64.wrap ((x : Int) + 5) = ((x + 5 : Nat) : Int) := by rw [wrap_in (by omega)]; omega
  have w4 : IntKind.i64.wrap ((x : Int) - o) = x - o := wrap_in (by omega)
  have k6 := k6 x y
  have k7 := k7 x x60 y
  have k8 := k8 ((x : Int) - o) y
  have hcv := hcov x y x60 y60
  cases hc : cellM r.rects (x : Int) (y : Int) with
  | false =>
    rw [hc] at k6
    simp (maxSteps := 1000000) (implicitDefEqProofs := false) only [xn, k6, w3, bne_self_eq_false, ss, sd, evOp, evPlain, evVal, evMem, St.get, sliceOf, arrayOf, fieldsOf, normOf, norm, look, evVar, evFieldAddr, nameOf, St.alloc, St.drop, killOb, part, splice, depth, resultsV, ↓reduceIte, Nat.reduceBEq, Nat.reduceAdd, Nat.reduceSub, Nat.reduceMul, Nat.reduceEqDiff, Nat.reduceLeDiff, Nat.reduceLT, effOf, effMem, effVar, effLit, effMake, effApp, lend, evLit, evNil, freeze, evField, evIndexT, orNil, evSlice, placeOf, evMap, mapOf, keyOk, evFrame, closed, fixed, sameEs, wit, Option.isSome_some, St.with, wantedD, Array.size, te, einl, inls, efr]
    exact ⟨⟨x + 5, by omega⟩, by first | rfl | simp, by dsimp only; omega⟩
  | true =>
    rw [hc] at k6
    rcases hcv hc with h13 | ⟨a, ha, hb⟩
    · rw [h13] at k7
      simp (maxSteps := 1000000) (implicitDefEqProofs := false) only [xn, k0, k4, k6, k7, evRegion_st hok, bne_self_eq_false, beq_self_eq_true, Try.ntmps10, Try.results10, efc10, fc10, ss, sd, evOp, evPlain, evVal, evMem, St.get, sliceOf, arrayOf, fieldsOf, normOf, norm, look, evVar, evFieldAddr, nameOf, St.alloc, St.drop, killOb, part, splice, depth, resultsV, ↓reduceIte, Nat.reduceBEq, Nat.reduceAdd, Nat.reduceSub, Nat.reduceMul, Nat.reduceEqDiff, Nat.reduceLeDiff, Nat.reduceLT, effOf, effMem, effVar, effLit, effMake, effApp, lend, evLit, evNil, freeze, evField, evIndexT, orNil, evSlice, placeOf, evMap, mapOf, keyOk, evFrame, closed, fixed, sameEs, wit, Option.isSome_some, St.with, wantedD, Array.size, te, einl, inls, efr]
    · rw [ha] at k7
      rw [hb] at k8
      have q13 : ((0 : Int) == 13) = false := rfl
      simp (maxSteps := 1000000) (implicitDefEqProofs := false) only [xn, k0, k4, k6, k7, k8, w3, w4, q13, evRegion_st hok, bne_self_eq_false, beq_self_eq_true, ss, sd, evOp, evPlain, evVal, evMem, St.get, sliceOf, arrayOf, fieldsOf, normOf, norm, look, evVar, evFieldAddr, nameOf, St.alloc, St.drop, killOb, part, splice, depth, resultsV, ↓reduceIte, Nat.reduceBEq, Nat.reduceAdd, Nat.reduceSub, Nat.reduceMul, Nat.reduceEqDiff, Nat.reduceLeDiff, Nat.reduceLT, effOf, effMem, effVar, effLit, effMake, effApp, lend, evLit, evNil, freeze, evField, evIndexT, orNil, evSlice, placeOf, evMap, mapOf, keyOk, evFrame, closed, fixed, sameEs, wit, Option.isSome_some, St.with, wantedD, Array.size, te, einl, inls, efr]
      exact ⟨⟨x + 5, by omega⟩, by first | rfl | simp, by dsimp only; omega⟩
end Go.AM.D
