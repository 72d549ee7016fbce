/-
Strips of a room.
-/
import Derived.Test.YtejjeckiplihbaaDStripsB
set_option linter.unusedSimpArgs false
set_option maxRecDepth 20000

namespace Go.AM.D
open Go Go.AM Go.Proofs

def stripsV (r : Room) (w o : Int) : List Strip := if dividedE r w o = 0 then stripsM (cellM r.rects) w o else []

set_option maxHeartbeats 4000000 in
theorem c18 (r : Room) (w o : Int) (hr : r.rects.length ≤ 1000000000) (hd : r.doors.length ≤ 1000000000) : (orcω E X0).call 18 [encRoom r, .int .i64 w, .int .i64 o] =
    some (.tup [.sl true ((stripsV r w o).map encStrip), .int .i64 (dividedE r w o)]) := by
  refine call_of rfl fn18 rfl ?_
  have k1 := c58 r w o hr hd
  rw [dividedV_eq] at k1
  unfold stripsV
  by_cases h : dividedE r w o = 0
  · rw [if_pos h] at k1 ⊢
    rw [h]
    obtain ⟨h1, h2, h3⟩ := dividedE_zero h
    have k2 := c59 (cells_inside (roomE_all h1)) w o h2 h3
    obtain ⟨rs, ds⟩ := r
    dsimp only at k1 k2 ⊢
    unfold encRoom at k1 ⊢
    simp (maxSteps := 1000000) (implicitDefEqProofs := false) only [Try.ntmps18, Try.results18, efc18, k1, k2, bne_self_eq_false, ss, sd, evOp, evPlain, evVal, evMem, St.get, sliceOf, arrayOf, fieldsOf, normOf, norm, look, evVar, evFieldAddr, nameOf, St.alloc, St.drop, killOb, part, splice, depth, resultsV, ↓reduceIte, Nat.reduceBEq, Nat.reduceAdd, Nat.reduceSub, Nat.reduceMul, Nat.reduceEqDiff, Nat.reduceLeDiff, Nat.reduceLT, effOf, effMem, effVar, effLit, effMake, effApp, lend, evLit, evNil, freeze, evField, evIndexT, orNil, evSlice, placeOf, evMap, mapOf, keyOk, evFrame, closed, fixed, sameEs, wit, Option.isSome_some, St.with, wantedD, Array.size, te, einl, inls, efr]
  · rw [if_neg h] at k1 ⊢
    obtain ⟨rs, ds⟩ := r
    have h' : (dividedE ⟨rs, ds⟩ w o != 0) = true := by simpa using h
    generalize dividedE ⟨rs, ds⟩ w o = e at *
    unfold encRoom at k1 ⊢
    simp (maxSteps := 1000000) (implicitDefEqProofs := false) only [Try.ntmps18, Try.results18, efc18, k1, h', List.map_nil, ss, sd, evOp, evPlain, evVal, evMem, St.get, sliceOf, arrayOf, fieldsOf, normOf, norm, look, evVar, evFieldAddr, nameOf, St.alloc, St.drop, killOb, part, splice, depth, resultsV, ↓reduceIte, Nat.reduceBEq, Nat.reduceAdd, Nat.reduceSub, Nat.reduceMul, Nat.reduceEqDiff, Nat.reduceLeDiff, Nat.reduceLT, effOf, effMem, effVar, effLit, effMake, effApp, lend, evLit, evNil, freeze, evField, evIndexT, orNil, evSlice, placeOf, evMap, mapOf, keyOk, evFrame, closed, fixed, sameEs, wit, Option.isSome_some, St.with, wantedD, Array.size, te, einl, inls, efr]

end Go.AM.D
