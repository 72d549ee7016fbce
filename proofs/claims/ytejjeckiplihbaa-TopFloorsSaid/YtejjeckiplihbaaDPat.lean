/-
Patterns: the small functions of both sides.
-/
import Derived.Test.YtejjeckiplihbaaDBase
import Derived.Test.YtejjeckiplihbaaDPatP
set_option linter.unusedSimpArgs false
set_option maxRecDepth 20000

namespace Go.AM.D
open Go Go.AM Go.Proofs

theorem c87 (x lo hi : Int) : (orcω E X0).call 87 [.int .i64 x, .int .i64 lo, .int .i64 hi] = some (.bool (inB x lo hi)) := by
  refine call_of rfl fn87 rfl ?_
  by_cases h : lo ≤ x
  · simp (maxSteps := 1000000) (implicitDefEqProofs := false) only [Try.ntmps87, Try.results87, efc87, h, inB, ss, sd, evOp, evPlain, evVal, evMem, St.get, sliceOf, arrayOf, fieldsOf, normOf, norm, look, evVar, evFieldAddr, nameOf, St.alloc, St.drop, killOb, part, splice, depth, resultsV, ↓reduceIte, Nat.reduceBEq, Nat.reduceAdd, Nat.reduceSub, Nat.reduceMul, Nat.reduceEqDiff, Nat.reduceLeDiff, Nat.reduceLT, effOf, effMem, effVar, effLit, effMake, effApp, lend, evLit, evNil, freeze, evField, evIndexT, orNil, evSlice, placeOf, evMap, mapOf, keyOk, evFrame, closed, fixed, sameEs, wit, Option.isSome_some, St.with, wantedD, Array.size, te, einl, inls, efr]
  · simp (maxSteps := 1000000) (implicitDefEqProofs := false) only [Try.ntmps87, Try.results87, efc87, h, inB, ss, sd, evOp, evPlain, evVal, evMem, St.get, sliceOf, arrayOf, fieldsOf, normOf, norm, look, evVar, evFieldAddr, nameOf, St.alloc, St.drop, killOb, part, splice, depth, resultsV, ↓reduceIte, Nat.reduceBEq, Nat.reduceAdd, Nat.reduceSub, Nat.reduceMul, Nat.reduceEqDiff, Nat.reduceLeDiff, Nat.reduceLT, effOf, effMem, effVar, effLit, effMake, effApp, lend, evLit, evNil, freeze, evField, evIndexT, orNil, evSlice, placeOf, evMap, mapOf, keyOk, evFrame, closed, fixed, sameEs, wit, Option.isSome_some, St.with, wantedD, Array.size, te, einl, inls, efr]
def nearP (x : Int) : Bool := inB x (-100000) 100000
theorem nearP_iff {x : Int} : nearP x = true ↔ -100000 ≤ x ∧ x ≤ 100000 := inB_iff
theorem c121 (x y : Int) : (orcω E X0).call 121 [.int .i64 x, .int .i64 y] = some (.bool (nearP x && nearP y)) := by
  refine call_of rfl fn121 rfl ?_
  have k1 := fun x lo hi => c87 x lo hi
  unfold nearP
  cases h1 : inB x (-100000) 100000 with
  | false => simp (maxSteps := 1000000) (implicitDefEqProofs := false) only [Try.ntmps121, Try.results121, efc121, k1, h1, ss, sd, evOp, evPlain, evVal, evMem, St.get, sliceOf, arrayOf, fieldsOf, normOf, norm, look, evVar, evFieldAddr, nameOf, St.alloc, St.drop, killOb, part, splice, depth, resultsV, ↓reduceIte, Nat.reduceBEq, Nat.reduceAdd, Nat.reduceSub, Nat.reduceMul, Nat.reduceEqDiff, Nat.reduceLeDiff, Nat.reduceLT, effOf, effMem, effVar, effLit, effMake, effApp, lend, evLit, evNil, freeze, evField, evIndexT, orNil, evSlice, placeOf, evMap, mapOf, keyOk, evFrame, closed, fixed, sameEs, wit, Option.isSome_some, St.with, wantedD, Array.size, te, einl, inls, efr]
  | true => simp (maxSteps := 1000000) (implicitDefEqProofs := false) only [Try.ntmps121, Try.results121, efc121, k1, h1, ss, sd, evOp, evPlain, evVal, evMem, St.get, sliceOf, arrayOf, fieldsOf, normOf, norm, look, evVar, evFieldAddr, nameOf, St.alloc, St.drop, killOb, part, splice, depth, resultsV, ↓reduceIte, Nat.reduceBEq, Nat.reduceAdd, Nat.reduceSub, Nat.reduceMul, Nat.reduceEqDiff, Nat.reduceLeDiff, Nat.reduceLT, effOf, effMem, effVar, effLit, effMake, effApp, lend, evLit, evNil, freeze, evField, evIndexT, orNil, evSlice, placeOf, evMap, mapOf, keyOk, evFrame, closed, fixed, sameEs, wit, Option.isSome_some, St.with, wantedD, Array.size, te, einl, inls, efr]
theorem c113 (x : Int) : (orcω E X0).call 113 [.int .i64 x] = some (.bool (!hueOk x)) := by
  refine call_of rfl fn113 rfl ?_
  by_cases h : x < 0
  · have e : hueOk x = false := by rw [Bool.eq_false_iff]; intro hh; have := inB_iff.1 hh; omega
    simp (maxSteps := 1000000) (implicitDefEqProofs := false) only [Try.ntmps113, Try.results113, efc113, h, e, ss, sd, evOp, evPlain, evVal, evMem, St.get, sliceOf, arrayOf, fieldsOf, normOf, norm, look, evVar, evFieldAddr, nameOf, St.alloc, St.drop, killOb, part, splice, depth, resultsV, ↓reduceIte, Nat.reduceBEq, Nat.reduceAdd, Nat.reduceSub, Nat.reduceMul, Nat.reduceEqDiff, Nat.reduceLeDiff, Nat.reduceLT, effOf, effMem, effVar, effLit, effMake, effApp, lend, evLit, evNil, freeze, evField, evIndexT, orNil, evSlice, placeOf, evMap, mapOf, keyOk, evFrame, closed, fixed, sameEs, wit, Option.isSome_some, St.with, wantedD, Array.size, te, einl, inls, efr]
  · by_cases h2 : 8 ≤ x
    · have e : hueOk x = false := by rw [Bool.eq_false_iff]; intro hh; have := inB_iff.1 hh; omega
      simp (maxSteps := 1000000) (implicitDefEqProofs := false) only [Try.ntmps113, Try.results113, efc113, h, h2, e, ss, sd, evOp, evPlain, evVal, evMem, St.get, sliceOf, arrayOf, fieldsOf, normOf, norm, look, evVar, evFieldAddr, nameOf, St.alloc, St.drop, killOb, part, splice, depth, resultsV, ↓reduceIte, Nat.reduceBEq, Nat.reduceAdd, Nat.reduceSub, Nat.reduceMul, Nat.reduceEqDiff, Nat.reduceLeDiff, Nat.reduceLT, effOf, effMem, effVar, effLit, effMake, effApp, lend, evLit, evNil, freeze, evField, evIndexT, orNil, evSlice, placeOf, evMap, mapOf, keyOk, evFrame, closed, fixed, sameEs, wit, Option.isSome_some, St.with, wantedD, Array.size, te, einl, inls, efr]
    · have e : hueOk x = true := inB_iff.2 (by omega)
      simp (maxSteps := 1000000) (implicitDefEqProofs := false) only [Try.ntmps113, Try.results113, efc113, h, h2, e, ss, sd, evOp, evPlain, evVal, evMem, St.get, sliceOf, arrayOf, fieldsOf, normOf, norm, look, evVar, evFieldAddr, nameOf, St.alloc, St.drop, killOb, part, splice, depth, resultsV, ↓reduceIte, Nat.reduceBEq, Nat.reduceAdd, Nat.reduceSub, Nat.reduceMul, Nat.reduceEqDiff, Nat.reduceLeDiff, Nat.reduceLT, effOf, effMem, effVar, effLit, effMake, effApp, lend, evLit, evNil, freeze, evField, evIndexT, orNil, evSlice, placeOf, evMap, mapOf, keyOk, evFrame, closed, fixed, sameEs, wit, Option.isSome_some, St.with, wantedD, Array.size, te, einl, inls, efr]
theorem c125 (x : Int) : (orcω E X0).call 125 [.int .i64 x] = some (.bool (!nearP x)) := by
  refine call_of rfl fn125 rfl ?_
  by_cases h : x < -100000
  · have e : nearP x = false := by rw [Bool.eq_false_iff]; intro hh; have := nearP_iff.1 hh; omega
    simp (maxSteps := 1000000) (implicitDefEqProofs := false) only [Try.ntmps125, Try.results125, efc125, h, e, ss, sd, evOp, evPlain, evVal, evMem, St.get, sliceOf, arrayOf, fieldsOf, normOf, norm, look, evVar, evFieldAddr, nameOf, St.alloc, St.drop, killOb, part, splice, depth, resultsV, ↓reduceIte, Nat.reduceBEq, Nat.reduceAdd, Nat.reduceSub, Nat.reduceMul, Nat.reduceEqDiff, Nat.reduceLeDiff, Nat.reduceLT, effOf, effMem, effVar, effLit, effMake, effApp, lend, evLit, evNil, freeze, evField, evIndexT, orNil, evSlice, placeOf, evMap, mapOf, keyOk, evFrame, closed, fixed, sameEs, wit, Option.isSome_some, St.with, wantedD, Array.size, te, einl, inls, efr]
  · by_cases h2 : 100000 < x
    · have e : nearP x = false := by rw [Bool.eq_false_iff]; intro hh; have := nearP_iff.1 hh; omega
      simp (maxSteps := 1000000) (implicitDefEqProofs := false) only [Try.ntmps125, Try.results125, efc125, h, h2, e, ss, sd, evOp, evPlain, evVal, evMem, St.get, sliceOf, arrayOf, fieldsOf, normOf, norm, look, evVar, evFieldAddr, nameOf, St.alloc, St.drop, killOb, part, splice, depth, resultsV, ↓reduceIte, Nat.reduceBEq, Nat.reduceAdd, Nat.reduceSub, Nat.reduceMul, Nat.reduceEqDiff, Nat.reduceLeDiff, Nat.reduceLT, effOf, effMem, effVar, effLit, effMake, effApp, lend, evLit, evNil, freeze, evField, evIndexT, orNil, evSlice, placeOf, evMap, mapOf, keyOk, evFrame, closed, fixed, sameEs, wit, Option.isSome_some, St.with, wantedD, Array.size, te, einl, inls, efr]
    · have e : nearP x = true := nearP_iff.2 (by omega)
      simp (maxSteps := 1000000) (implicitDefEqProofs := false) only [Try.ntmps125, Try.results125, efc125, h, h2, e, ss, sd, evOp, evPlain, evVal, evMem, St.get, sliceOf, arrayOf, fieldsOf, normOf, norm, look, evVar, evFieldAddr, nameOf, St.alloc, St.drop, killOb, part, splice, depth, resultsV, ↓reduceIte, Nat.reduceBEq, Nat.reduceAdd, Nat.reduceSub, Nat.reduceMul, Nat.reduceEqDiff, Nat.reduceLeDiff, Nat.reduceLT, effOf, effMem, effVar, effLit, effMake, effApp, lend, evLit, evNil, freeze, evField, evIndexT, orNil, evSlice, placeOf, evMap, mapOf, keyOk, evFrame, closed, fixed, sameEs, wit, Option.isSome_some, St.with, wantedD, Array.size, te, einl, inls, efr]

set_option maxHeartbeats 2000000 in
theorem c135 (f : Nat) (p : Int → Bool) (hE : E.inl f = false) (hf : ∀ x, (orcω E X0).call f [.int .i64 x] = some (.bool (p x))) (cs : List Int) (hn : cs.length ≤ 1000000000) :
    (orcω E X0).call 135 [.sl false (cs.map fun c => V.int .i64 c), .clo f [] []] = some (.int .i64 (idxP p cs 0)) := by
  refine call_of rfl fn135 rfl ?_
  simp (maxSteps := 1000000) (implicitDefEqProofs := false) only [Try.ntmps135, Try.results135, efc135, fc135, ss, sd, evOp, evPlain, evVal, evMem, St.get, sliceOf, arrayOf, fieldsOf, normOf, norm, look, evVar, evFieldAddr, nameOf, St.alloc, St.drop, killOb, part, splice, depth, resultsV, ↓reduceIte, Nat.reduceBEq, Nat.reduceAdd, Nat.reduceSub, Nat.reduceMul, Nat.reduceEqDiff, Nat.reduceLeDiff, Nat.reduceLT, effOf, effMem, effVar, effLit, effMake, effApp, lend, evLit, evNil, freeze, evField, evIndexT, orNil, evSlice, placeOf, evMap, mapOf, keyOk, evFrame, closed, fixed, sameEs, wit, Option.isSome_some, St.with, wantedD, Array.size, te, einl, inls, efr]
  generalize hr : loopAt _ _ _ _ _ _ = r; revert r
  refine loop_list cs (fun pre _ => [(8, .int .i64 pre.length)]) (fun _ _ => []) (fun pre (_ : Unit) => pre.any p = false) () (by omega) (by simp (maxSteps := 1000000) (implicitDefEqProofs := false) only [ss, sd, evOp, evPlain, evVal, evMem, St.get, sliceOf, arrayOf, fieldsOf, normOf, norm, look, evVar, evFieldAddr, nameOf, St.alloc, St.drop, killOb, part, splice, depth, resultsV, ↓reduceIte, Nat.reduceBEq, Nat.reduceAdd, Nat.reduceSub, Nat.reduceMul, Nat.reduceEqDiff, Nat.reduceLeDiff, Nat.reduceLT, effOf, effMem, effVar, effLit, effMake, effApp, lend, evLit, evNil, freeze, evField, evIndexT, orNil, evSlice, placeOf, evMap, mapOf, keyOk, evFrame, closed, fixed, sameEs, wit, Option.isSome_some, St.with, wantedD, Array.size, te, einl, inls, efr]) rfl (fun _ hi => ?_) (fun pre a post _ hp hi g1 g2 g3 g4 => ?_)
  · have e : idxP p cs 0 = -1 := by
      have := idxP_append p [] cs 0 hi
      rw [List.append_nil] at this
      rw [this]; rfl
    simp (maxSteps := 1000000) (implicitDefEqProofs := false) only [Int.lt_irrefl, hi, Try.ntmps135, Try.results135, efc135, fc135, List.length_map, e, ss, sd, evOp, evPlain, evVal, evMem, St.get, sliceOf, arrayOf, fieldsOf, normOf, norm, look, evVar, evFieldAddr, nameOf, St.alloc, St.drop, killOb, part, splice, depth, resultsV, ↓reduceIte, Nat.reduceBEq, Nat.reduceAdd, Nat.reduceSub, Nat.reduceMul, Nat.reduceEqDiff, Nat.reduceLeDiff, Nat.reduceLT, effOf, effMem, effVar, effLit, effMake, effApp, lend, evLit, evNil, freeze, evField, evIndexT, orNil, evSlice, placeOf, evMap, mapOf, keyOk, evFrame, closed, fixed, sameEs, wit, Option.isSome_some, St.with, wantedD, Array.size, te, einl, inls, efr]
  · have k1 := hf a
    have e : idxP p cs 0 = if p a = true then (pre.length : Int) else idxP p post (0 + pre.length + 1) := by
      rw [hp, idxP_append p _ pre 0 hi, idxP]
      simp
    cases hc : p a with
    | true =>
      rw [hc] at k1 e
      rw [if_pos rfl] at e
      simp (maxSteps := 1000000) (implicitDefEqProofs := false) only [g1, g2, g3, g4, e, k1, hE, Try.ntmps135, Try.results135, efc135, fc135, Int.natCast_nonneg, Int.toNat_natCast, List.getElem?_map, List.length_map, ss, sd, evOp, evPlain, evVal, evMem, St.get, sliceOf, arrayOf, fieldsOf, normOf, norm, look, evVar, evFieldAddr, nameOf, St.alloc, St.drop, killOb, part, splice, depth, resultsV, ↓reduceIte, Nat.reduceBEq, Nat.reduceAdd, Nat.reduceSub, Nat.reduceMul, Nat.reduceEqDiff, Nat.reduceLeDiff, Nat.reduceLT, effOf, effMem, effVar, effLit, effMake, effApp, lend, evLit, evNil, freeze, evField, evIndexT, orNil, evSlice, placeOf, evMap, mapOf, keyOk, evFrame, closed, fixed, sameEs, wit, Option.isSome_some, St.with, wantedD, Array.size, te, einl, inls, efr]
    | false =>
      rw [hc] at k1
      simp (maxSteps := 1000000) (implicitDefEqProofs := false) only [g1, g2, g3, g4, k1, hE, Int.natCast_nonneg, Int.toNat_natCast, List.getElem?_map, List.length_map, ss, sd, evOp, evPlain, evVal, evMem, St.get, sliceOf, arrayOf, fieldsOf, normOf, norm, look, evVar, evFieldAddr, nameOf, St.alloc, St.drop, killOb, part, splice, depth, resultsV, ↓reduceIte, Nat.reduceBEq, Nat.reduceAdd, Nat.reduceSub, Nat.reduceMul, Nat.reduceEqDiff, Nat.reduceLeDiff, Nat.reduceLT, effOf, effMem, effVar, effLit, effMake, effApp, lend, evLit, evNil, freeze, evField, evIndexT, orNil, evSlice, placeOf, evMap, mapOf, keyOk, evFrame, closed, fixed, sameEs, wit, Option.isSome_some, St.with, wantedD, Array.size, te, einl, inls, efr]
      exact ⟨(), by rw [List.any_append, hi]; simp [hc]⟩
theorem c112 (f : Nat) (p : Int → Bool) (hE : E.inl f = false) (hf : ∀ x, (orcω E X0).call f [.int .i64 x] = some (.bool (p x))) (cs : List Int) (hn : cs.length ≤ 1000000000) :
    (orcω E X0).call 112 [.sl false (cs.map fun c => V.int .i64 c), .clo f [] []] = some (.bool (cs.any p)) := by
  refine call_of rfl fn112 rfl ?_
  have k1 := c135 f p hE hf cs hn
  have e := idxP_any p cs 0 (by omega)
  rw [← e]
  generalize idxP p cs 0 = i at *
  simp (maxSteps := 1000000) (implicitDefEqProofs := false) only [Try.ntmps112, Try.results112, efc112, k1, ss, sd, evOp, evPlain, evVal, evMem, St.get, sliceOf, arrayOf, fieldsOf, normOf, norm, look, evVar, evFieldAddr, nameOf, St.alloc, St.drop, killOb, part, splice, depth, resultsV, ↓reduceIte, Nat.reduceBEq, Nat.reduceAdd, Nat.reduceSub, Nat.reduceMul, Nat.reduceEqDiff, Nat.reduceLeDiff, Nat.reduceLT, effOf, effMem, effVar, effLit, effMake, effApp, lend, evLit, evNil, freeze, evField, evIndexT, orNil, evSlice, placeOf, evMap, mapOf, keyOk, evFrame, closed, fixed, sameEs, wit, Option.isSome_some, St.with, wantedD, Array.size, te, einl, inls, efr]
theorem c92 (x y : Int) : (orcω E X0).call 92 [.sl false [.int .i64 x, .int .i64 y]] = some (.bool (nearP x && nearP y)) := by
  refine call_of rfl fn92 rfl ?_
  have k1 := c112 125 (fun x => !nearP x) rfl c125 [x, y] (by simp)
  have e : [x, y].any (fun x => !nearP x) = !(nearP x && nearP y) := by simp
  rw [e] at k1
  simp only [List.map_cons, List.map_nil] at k1
  generalize (nearP x && nearP y) = b at *
  simp (maxSteps := 1000000) (implicitDefEqProofs := false) only [Try.ntmps92, Try.results92, efc92, k1, Bool.not_not, ss, sd, evOp, evPlain, evVal, evMem, St.get, sliceOf, arrayOf, fieldsOf, normOf, norm, look, evVar, evFieldAddr, nameOf, St.alloc, St.drop, killOb, part, splice, depth, resultsV, ↓reduceIte, Nat.reduceBEq, Nat.reduceAdd, Nat.reduceSub, Nat.reduceMul, Nat.reduceEqDiff, Nat.reduceLeDiff, Nat.reduceLT, effOf, effMem, effVar, effLit, effMake, effApp, lend, evLit, evNil, freeze, evField, evIndexT, orNil, evSlice, placeOf, evMap, mapOf, keyOk, evFrame, closed, fixed, sameEs, wit, Option.isSome_some, St.with, wantedD, Array.size, te, einl, inls, efr]

theorem c142 (x n : Int) (hn : 1 ≤ n ∧ n ≤ 144) (hx : -30000000 ≤ x ∧ x ≤ 30000000) : (orcω E X0).call 142 [.int .i64 x, .int .i64 n] = some (.int .i64 (x / n)) := by
  refine call_of rfl fn142 rfl ?_
  have b := div_in (B := 30000000) hn.1 hx.1 hx.2 (by omega)
  have z : (n == 0) = false := by rw [Bool.eq_false_iff]; intro h; have := beq_iff_eq.1 h; omega
  have z2 : ¬ n = 0 := by omega
  by_cases h : x.tmod n < 0
  · have e := floor_neg hn.1 h
    have w1 : IntKind.i64.wrap (x.tdiv n) = x.tdiv n := wrap_in (by omega)
    have w2 : IntKind.i64.wrap (x.tdiv n - 1) = x / n := by rw [e, wrap_in (by omega)]
    have hb := Int.lt_tmod_of_pos x (show 0 < n by omega)
    have w3 : IntKind.i64.wrap (x.tmod n) = x.tmod n := wrap_in (by omega)
    simp (maxSteps := 1000000) (implicitDefEqProofs := false) only [Try.ntmps142, Try.results142, efc142, h, w1, w2, w3, z, z2, ne_eq, not_false_eq_true, ss, sd, evOp, evPlain, evVal, evMem, St.get, sliceOf, arrayOf, fieldsOf, normOf, norm, look, evVar, evFieldAddr, nameOf, St.alloc, St.drop, killOb, part, splice, depth, resultsV, ↓reduceIte, Nat.reduceBEq, Nat.reduceAdd, Nat.reduceSub, Nat.reduceMul, Nat.reduceEqDiff, Nat.reduceLeDiff, Nat.reduceLT, effOf, effMem, effVar, effLit, effMake, effApp, lend, evLit, evNil, freeze, evField, evIndexT, orNil, evSlice, placeOf, evMap, mapOf, keyOk, evFrame, closed, fixed, sameEs, wit, Option.isSome_some, St.with, wantedD, Array.size, te, einl, inls, efr]
  · have e := floor_pos hn.1 h
    have hb := Int.tmod_lt_of_pos x (show 0 < n by omega)
    have w1 : IntKind.i64.wrap (x / n) = x / n := wrap_in (by omega)
    have w3 : IntKind.i64.wrap (x.tmod n) = x.tmod n := wrap_in (by omega)
    simp (maxSteps := 1000000) (implicitDefEqProofs := false) only [Try.ntmps142, Try.results142, efc142, h, w1, w3, z, z2, e, ne_eq, not_false_eq_true, ss, sd, evOp, evPlain, evVal, evMem, St.get, sliceOf, arrayOf, fieldsOf, normOf, norm, look, evVar, evFieldAddr, nameOf, St.alloc, St.drop, killOb, part, splice, depth, resultsV, ↓reduceIte, Nat.reduceBEq, Nat.reduceAdd, Nat.reduceSub, Nat.reduceMul, Nat.reduceEqDiff, Nat.reduceLeDiff, Nat.reduceLT, effOf, effMem, effVar, effLit, effMake, effApp, lend, evLit, evNil, freeze, evField, evIndexT, orNil, evSlice, placeOf, evMap, mapOf, keyOk, evFrame, closed, fixed, sameEs, wit, Option.isSome_some, St.with, wantedD, Array.size, te, einl, inls, efr]
theorem c143 (x n : Int) (hn : 1 ≤ n ∧ n ≤ 144) (hx : -30000000 ≤ x ∧ x ≤ 30000000) : (orcω E X0).call 143 [.int .i64 x, .int .i64 n] = some (.int .i64 (x % n)) := by
  refine call_of rfl fn143 rfl ?_
  have k1 := c142 x n hn hx
  have e1 := Int.mul_ediv_add_emod x n
  rw [Int.mul_comm] at e1
  have e2 := Int.emod_nonneg x (show n ≠ 0 by omega)
  have e3 := Int.emod_lt_of_pos x (show 0 < n by omega)
  have w1 : IntKind.i64.wrap (x / n * n) = x / n * n := wrap_in (by omega)
  have w2 : IntKind.i64.wrap (x - x / n * n) = x % n := by rw [show x - x / n * n = x % n by omega, wrap_in (by omega)]
  simp (maxSteps := 1000000) (implicitDefEqProofs := false) only [Try.ntmps143, Try.results143, efc143, k1, w1, w2, ss, sd, evOp, evPlain, evVal, evMem, St.get, sliceOf, arrayOf, fieldsOf, normOf, norm, look, evVar, evFieldAddr, nameOf, St.alloc, St.drop, killOb, part, splice, depth, resultsV, ↓reduceIte, Nat.reduceBEq, Nat.reduceAdd, Nat.reduceSub, Nat.reduceMul, Nat.reduceEqDiff, Nat.reduceLeDiff, Nat.reduceLT, effOf, effMem, effVar, effLit, effMake, effApp, lend, evLit, evNil, freeze, evField, evIndexT, orNil, evSlice, placeOf, evMap, mapOf, keyOk, evFrame, closed, fixed, sameEs, wit, Option.isSome_some, St.with, wantedD, Array.size, te, einl, inls, efr]
theorem c141 (x n : Int) (hn : 1 ≤ n ∧ n ≤ 144) : (orcω E X0).call 141 [.int .i64 x, .int .i64 n] = some (.int .i64 (x % n)) := by
  refine call_of rfl fn141 rfl ?_
  have e1 := mod_code (x := x) hn.1
  have e2 := Int.emod_nonneg x (show n ≠ 0 by omega)
  have e3 := Int.emod_lt_of_pos x (show 0 < n by omega)
  have hb := Int.tmod_lt_of_pos x (show 0 < n by omega)
  have hb2 := Int.lt_tmod_of_pos x (show 0 < n by omega)
  have z : (n == 0) = false := by rw [Bool.eq_false_iff]; intro h; have := beq_iff_eq.1 h; omega
  have z2 : ¬ n = 0 := by omega
  have w1 : IntKind.i64.wrap (x.tmod n) = x.tmod n := wrap_in (by omega)
  have w2 : IntKind.i64.wrap (x.tmod n + n) = x.tmod n + n := wrap_in (by omega)
  have w3 : IntKind.i64.wrap (x % n) = x % n := wrap_in (by omega)
  simp (maxSteps := 1000000) (implicitDefEqProofs := false) only [Try.ntmps141, Try.results141, efc141, w1, w2, w3, z, z2, e1, ne_eq, not_false_eq_true, ss, sd, evOp, evPlain, evVal, evMem, St.get, sliceOf, arrayOf, fieldsOf, normOf, norm, look, evVar, evFieldAddr, nameOf, St.alloc, St.drop, killOb, part, splice, depth, resultsV, ↓reduceIte, Nat.reduceBEq, Nat.reduceAdd, Nat.reduceSub, Nat.reduceMul, Nat.reduceEqDiff, Nat.reduceLeDiff, Nat.reduceLT, effOf, effMem, effVar, effLit, effMake, effApp, lend, evLit, evNil, freeze, evField, evIndexT, orNil, evSlice, placeOf, evMap, mapOf, keyOk, evFrame, closed, fixed, sameEs, wit, Option.isSome_some, St.with, wantedD, Array.size, te, einl, inls, efr]
end Go.AM.D
