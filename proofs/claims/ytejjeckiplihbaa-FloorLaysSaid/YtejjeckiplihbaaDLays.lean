/-
FloorLays: both sides give the same colour.
-/
import Derived.Test.YtejjeckiplihbaaDLaidB
import Derived.Test.YtejjeckiplihbaaDJobs
import Derived.Test.YtejjeckiplihbaaDSaneB
set_option linter.unusedSimpArgs false
set_option maxRecDepth 20000

namespace Go.AM.D
open Go Go.AM Go.Proofs

structure Lay where
  p : Pat
  w : Int
  j : Job
  cuts : List Cut
def encLay (l : Lay) : V := .agg [.int .i64 l.p.w, .int .i64 l.p.s, .int .i64 l.p.h, .sl false (l.p.cs.map fun c => V.int .i64 c), .int .i64 l.w, .sl false (l.j.ss.map encStrip), .sl false (l.j.rs.map encRoll), .int .i64 l.j.rep, .sl false (l.cuts.map encCut)]
theorem atV_i (p : Pat) (x y : Int) : ∃ a b, atV p x y = .tup [.int .i64 a, .int .i64 b] := ⟨_, _, rfl⟩
theorem laidIn_form (p : Pat) (j : Job) (s : Strip) (x y : Int) (i : Nat) (no : V) (hno : ∃ a b, no = .tup [.int .i64 a, .int .i64 b]) : ∀ l, ∃ a b, laidIn p j s x y i no l = .tup [.int .i64 a, .int .i64 b]
  | [] => hno
  | c :: r => by
    unfold laidIn
    split
    · exact atV_form _ _ _
    · exact laidIn_form p j s x y i no hno r
theorem laidGo_form (p : Pat) (j : Job) (w x y : Int) (cuts : List Cut) : ∀ (l : List Strip) (i : Nat), ∃ a b, laidGo p j w x y cuts i l = .tup [.int .i64 a, .int .i64 b]
  | [], _ => ⟨_, _, rfl⟩
  | s :: r, i => by
    unfold laidGo
    split
    · exact laidIn_form _ _ _ _ _ _ _ (laidGo_form p j w x y cuts r (i + 1)) _
    · exact laidGo_form p j w x y cuts r (i + 1)
theorem laidV_form (p : Pat) (w : Int) (j : Job) (cuts : List Cut) (x y : Int) : ∃ a b, laidV p w j cuts x y = .tup [.int .i64 a, .int .i64 b] := by
  unfold laidV
  repeat' split
  all_goals first | exact ⟨_, _, rfl⟩ | exact laidGo_form _ _ _ _ _ _ _ _

theorem okT9 : okCode (Try.f9.body.getD .skip) = true := by decide +kernel
set_option maxRecDepth 20000 in
set_option maxHeartbeats 4000000 in
theorem c9 (l : Lay) (x y : Int) (hx : -9223372036854775808 ≤ x ∧ x ≤ 9223372036854775807) :
    (orcω E X0).call 9 [encLay l, .int .i64 x, .int .i64 y] = some (.bool true) := by
  refine call_of rfl fn9 rfl ?_
  have hok := okT9
  simp only [Try.f9, Option.getD_some, okCode, Bool.and_eq_true, Bool.and_true, Bool.true_and] at hok
  obtain ⟨hk1, hk2⟩ := hok
  have k0 := c17
  obtain ⟨p, w, j, cuts⟩ := l
  unfold encLay
  dsimp only
  by_cases h40 : (40 : Int) < cuts.length
  · simp (maxSteps := 1000000) (implicitDefEqProofs := false) only [Try.ntmps9, Try.results9, efc9, k0, h40, List.length_map, ss, sd, evOp, evPlain, evVal, evMem, St.get, sliceOf, arrayOf, fieldsOf, normOf, norm, look, evVar, evFieldAddr, nameOf, St.alloc, St.drop, killOb, part, splice, depth, resultsV, ↓reduceIte, Nat.reduceBEq, Nat.reduceAdd, Nat.reduceSub, Nat.reduceMul, Nat.reduceEqDiff, Nat.reduceLeDiff, Nat.reduceLT, effOf, effMem, effVar, effLit, effMake, effApp, lend, evLit, evNil, freeze, evField, evIndexT, orNil, evSlice, placeOf, evMap, mapOf, keyOk, evFrame, closed, fixed, sameEs, wit, Option.isSome_some, St.with, wantedD, Array.size, te, einl, inls, efr]
  by_cases h1000 : (1000 : Int) < p.cs.length
  · simp (maxSteps := 1000000) (implicitDefEqProofs := false) only [Try.ntmps9, Try.results9, efc9, k0, h40, h1000, List.length_map, ss, sd, evOp, evPlain, evVal, evMem, St.get, sliceOf, arrayOf, fieldsOf, normOf, norm, look, evVar, evFieldAddr, nameOf, St.alloc, St.drop, killOb, part, splice, depth, resultsV, ↓reduceIte, Nat.reduceBEq, Nat.reduceAdd, Nat.reduceSub, Nat.reduceMul, Nat.reduceEqDiff, Nat.reduceLeDiff, Nat.reduceLT, effOf, effMem, effVar, effLit, effMake, effApp, lend, evLit, evNil, freeze, evField, evIndexT, orNil, evSlice, placeOf, evMap, mapOf, keyOk, evFrame, closed, fixed, sameEs, wit, Option.isSome_some, St.with, wantedD, Array.size, te, einl, inls, efr]
  have k1 := c39 j
  have k2 := c41 j
  have k3 := c38 p w j cuts x y (by omega) (by omega) hx
  have k4 := c40 p w j cuts x y (by omega) (by omega) hx
  obtain ⟨a, b, e⟩ := laidV_form p w j cuts x y
  rw [e] at k3 k4
  unfold encPat encJob at *
  simp (maxSteps := 1000000) (implicitDefEqProofs := false) only [Try.ntmps9, Try.results9, efc9, k0, k1, k2, k3, k4, h40, h1000, evRegion_st hk1, evRegion_st hk2, beq_self_eq_true, List.length_map, ss, sd, evOp, evPlain, evVal, evMem, St.get, sliceOf, arrayOf, fieldsOf, normOf, norm, look, evVar, evFieldAddr, nameOf, St.alloc, St.drop, killOb, part, splice, depth, resultsV, ↓reduceIte, Nat.reduceBEq, Nat.reduceAdd, Nat.reduceSub, Nat.reduceMul, Nat.reduceEqDiff, Nat.reduceLeDiff, Nat.reduceLT, effOf, effMem, effVar, effLit, effMake, effApp, lend, evLit, evNil, freeze, evField, evIndexT, orNil, evSlice, placeOf, evMap, mapOf, keyOk, evFrame, closed, fixed, sameEs, wit, Option.isSome_some, St.with, wantedD, Array.size, te, einl, inls, efr]
end Go.AM.D
