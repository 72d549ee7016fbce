/- A part of the proof: the texts CRoll, CRollA, CRollB, CRollC, CRollD, one after another. No condition. -/
import Derived.Test.YtffbfhjcpgcdeaaCR
import Derived.Test.YtffbfhjcpgcdeaaCQ
import Derived.Test.YtffbfhjcpgcdeaaAmDyn
set_option linter.unusedVariables false
set_option linter.unusedSimpArgs false
set_option maxRecDepth 20000

section
/-
Articles: which are valid; marks of a band; which pieces fit.
-/
namespace Go.AM.C
open Go Go.Proofs

structure Art where
  len : Int
  q : Qu
  price : Int

def encArt (a : Art) : V := .agg [.int .i64 a.len, .int .i64 a.q.least, .int .i64 a.q.most, .int .i64 a.q.shade, .int .i64 a.q.flaws, .int .i64 a.price]
def wellA (a : Art) : Bool := inB a.len 1 300 && inB a.price 0 10000
def validA (l : List Art) : Int := if 5 < l.length then 4 else if l.all wellA = true then 0 else 1

theorem c54 (x lo hi : Int) : (orcω E X0).call 54 [.int .i64 x, .int .i64 lo, .int .i64 hi] = some (.bool (inB x lo hi)) := by
  refine call_of rfl fn54 rfl ?_
  unfold inB
  simp (maxSteps := 1000000) (implicitDefEqProofs := false) only [Try.ntmps54, Try.results54, efc54, ss, sd, zH, qG, zF, zG, St.get, qE, qF, qB, zC, norm, look, zE, qA, qI, St.alloc, St.drop, zA, part, zB, depth, qD, ↓reduceIte, Nat.reduceBEq, Nat.reduceAdd, Nat.reduceSub, Nat.reduceMul, Nat.reduceEqDiff, Nat.reduceLeDiff, Nat.reduceLT, qJ, qK, qL, qM, qN, qO, qP, qQ, qR, zI, qS, qC, qT, evSlice0, qV, qW, qX, qY, qZ, zJ, zK, zL, wit, Option.isSome_some, qH, xJ, evPre, St.with, zD, Array.size, evLitX, evAppX, evCold, nameT, te, einl, inls, efr]
  (repeat' (rewrite [ask_to]; generalize hb : ask2 _ = w; rcases ask_cases hb with ⟨hc, rfl⟩ | ⟨hc, rfl⟩ <;> clear hb <;> (try simp (maxSteps := 1000000) (implicitDefEqProofs := false) only [Try.ntmps54, Try.results54, efc54, ss, sd, zH, qG, zF, zG, St.get, qE, qF, qB, zC, norm, look, zE, qA, qI, St.alloc, St.drop, zA, part, zB, depth, qD, ↓reduceIte, Nat.reduceBEq, Nat.reduceAdd, Nat.reduceSub, Nat.reduceMul, Nat.reduceEqDiff, Nat.reduceLeDiff, Nat.reduceLT, qJ, qK, qL, qM, qN, qO, qP, qQ, qR, zI, qS, qC, qT, evSlice0, qV, qW, qX, qY, qZ, zJ, zK, zL, wit, Option.isSome_some, qH, xJ, evPre, St.with, zD, Array.size, evLitX, evAppX, evCold, nameT, te, einl, inls, efr])))
  all_goals (simp_all <;> omega)

theorem all_mem {α : Type} {p : α → Bool} {l pre post : List α} {x : α} (h : l = pre ++ x :: post) (hx : p x = false) : l.all p = false := by
  rw [h, List.all_append, List.all_cons, hx]; simp

theorem c20 (l : List Art) (hn : l.length ≤ 100000) : (orcω E X0).call 20 [.sl false (l.map encArt)] = some (.int .i64 (validA l)) := by
  refine call_of rfl fn20 rfl ?_
  unfold validA
  by_cases hl : 5 < l.length
  · have hl' : (5 : Int) < l.length := by omega
    rw [if_pos hl]
    simp (maxSteps := 1000000) (implicitDefEqProofs := false) only [Try.ntmps20, Try.results20, efc20, fc20, hl', ss, sd, zH, qG, zF, zG, St.get, qE, qF, qB, zC, norm, look, zE, qA, qI, St.alloc, St.drop, zA, part, zB, depth, qD, ↓reduceIte, Nat.reduceBEq, Nat.reduceAdd, Nat.reduceSub, Nat.reduceMul, Nat.reduceEqDiff, Nat.reduceLeDiff, Nat.reduceLT, qJ, qK, qL, qM, qN, qO, qP, qQ, qR, zI, qS, qC, qT, evSlice0, qV, qW, qX, qY, qZ, zJ, zK, zL, wit, Option.isSome_some, qH, xJ, evPre, St.with, zD, Array.size, evLitX, evAppX, evCold, nameT, te, einl, inls, efr]
  have hl' : ¬ (5 : Int) < l.length := by omega
  rw [if_neg hl]
  simp (maxSteps := 1000000) (implicitDefEqProofs := false) only [Try.ntmps20, Try.results20, efc20, fc20, hl', ss, sd, zH, qG, zF, zG, St.get, qE, qF, qB, zC, norm, look, zE, qA, qI, St.alloc, St.drop, zA, part, zB, depth, qD, ↓reduceIte, Nat.reduceBEq, Nat.reduceAdd, Nat.reduceSub, Nat.reduceMul, Nat.reduceEqDiff, Nat.reduceLeDiff, Nat.reduceLT, qJ, qK, qL, qM, qN, qO, qP, qQ, qR, zI, qS, qC, qT, evSlice0, qV, qW, qX, qY, qZ, zJ, zK, zL, wit, Option.isSome_some, qH, xJ, evPre, St.with, zD, Array.size, evLitX, evAppX, evCold, nameT, te, einl, inls, efr]
  generalize hr : loopAt _ _ _ _ _ _ = r; revert r
  refine loop_list l (fun pre _ => [(10, .int .i64 pre.length)]) (fun _ _ => []) (fun pre (_ : Unit) => pre.all wellA = true) () (by omega) (by simp (maxSteps := 1000000) (implicitDefEqProofs := false) only [ss, sd, zH, qG, zF, zG, St.get, qE, qF, qB, zC, norm, look, zE, qA, qI, St.alloc, St.drop, zA, part, zB, depth, qD, ↓reduceIte, Nat.reduceBEq, Nat.reduceAdd, Nat.reduceSub, Nat.reduceMul, Nat.reduceEqDiff, Nat.reduceLeDiff, Nat.reduceLT, qJ, qK, qL, qM, qN, qO, qP, qQ, qR, zI, qS, qC, qT, evSlice0, qV, qW, qX, qY, qZ, zJ, zK, zL, wit, Option.isSome_some, qH, xJ, evPre, St.with, zD, Array.size, evLitX, evAppX, evCold, nameT, te, einl, inls, efr]) rfl (fun _ hi => ?_) (fun pre x post _ hp hi g1 g2 g3 g4 => ?_)
  · rw [if_pos hi]
    simp (maxSteps := 1000000) (implicitDefEqProofs := false) only [Int.lt_irrefl, Try.ntmps20, Try.results20, efc20, fc20, ss, sd, zH, qG, zF, zG, St.get, qE, qF, qB, zC, norm, look, zE, qA, qI, St.alloc, St.drop, zA, part, zB, depth, qD, ↓reduceIte, Nat.reduceBEq, Nat.reduceAdd, Nat.reduceSub, Nat.reduceMul, Nat.reduceEqDiff, Nat.reduceLeDiff, Nat.reduceLT, qJ, qK, qL, qM, qN, qO, qP, qQ, qR, zI, qS, qC, qT, evSlice0, qV, qW, qX, qY, qZ, zJ, zK, zL, wit, Option.isSome_some, qH, xJ, evPre, St.with, zD, Array.size, evLitX, evAppX, evCold, nameT, te, einl, inls, efr]
  · have hall : wellA x = false → l.all wellA = false := fun h => all_mem hp h
    have hw : wellA x = (decide (1 ≤ x.len) && decide (x.len ≤ 300) && (decide (0 ≤ x.price) && decide (x.price ≤ 10000))) := rfl
    by_cases a1 : x.len < 1
    · rw [hall (by rw [hw]; simp; omega)]
      simp (maxSteps := 1000000) (implicitDefEqProofs := false) only [g1, g2, g3, g4, Int.natCast_nonneg, Int.toNat_natCast, List.getElem?_map, encArt, a1, Try.ntmps20, Try.results20, efc20, fc20, ss, sd, zH, qG, zF, zG, St.get, qE, qF, qB, zC, norm, look, zE, qA, qI, St.alloc, St.drop, zA, part, zB, depth, qD, ↓reduceIte, Nat.reduceBEq, Nat.reduceAdd, Nat.reduceSub, Nat.reduceMul, Nat.reduceEqDiff, Nat.reduceLeDiff, Nat.reduceLT, qJ, qK, qL, qM, qN, qO, qP, qQ, qR, zI, qS, qC, qT, evSlice0, qV, qW, qX, qY, qZ, zJ, zK, zL, wit, Option.isSome_some, qH, xJ, evPre, St.with, zD, Array.size, evLitX, evAppX, evCold, nameT, te, einl, inls, efr]
    · by_cases a2 : 300 < x.len
      · rw [hall (by rw [hw]; simp; omega)]
        simp (maxSteps := 1000000) (implicitDefEqProofs := false) only [g1, g2, g3, g4, Int.natCast_nonneg, Int.toNat_natCast, List.getElem?_map, encArt, a1, a2, Try.ntmps20, Try.results20, efc20, fc20, ss, sd, zH, qG, zF, zG, St.get, qE, qF, qB, zC, norm, look, zE, qA, qI, St.alloc, St.drop, zA, part, zB, depth, qD, ↓reduceIte, Nat.reduceBEq, Nat.reduceAdd, Nat.reduceSub, Nat.reduceMul, Nat.reduceEqDiff, Nat.reduceLeDiff, Nat.reduceLT, qJ, qK, qL, qM, qN, qO, qP, qQ, qR, zI, qS, qC, qT, evSlice0, qV, qW, qX, qY, qZ, zJ, zK, zL, wit, Option.isSome_some, qH, xJ, evPre, St.with, zD, Array.size, evLitX, evAppX, evCold, nameT, te, einl, inls, efr]
      · by_cases a3 : x.price < 0
        · rw [hall (by rw [hw]; simp; omega)]
          simp (maxSteps := 1000000) (implicitDefEqProofs := false) only [g1, g2, g3, g4, Int.natCast_nonneg, Int.toNat_natCast, List.getElem?_map, encArt, a1, a2, a3, Try.ntmps20, Try.results20, efc20, fc20, ss, sd, zH, qG, zF, zG, St.get, qE, qF, qB, zC, norm, look, zE, qA, qI, St.alloc, St.drop, zA, part, zB, depth, qD, ↓reduceIte, Nat.reduceBEq, Nat.reduceAdd, Nat.reduceSub, Nat.reduceMul, Nat.reduceEqDiff, Nat.reduceLeDiff, Nat.reduceLT, qJ, qK, qL, qM, qN, qO, qP, qQ, qR, zI, qS, qC, qT, evSlice0, qV, qW, qX, qY, qZ, zJ, zK, zL, wit, Option.isSome_some, qH, xJ, evPre, St.with, zD, Array.size, evLitX, evAppX, evCold, nameT, te, einl, inls, efr]
        · by_cases a4 : 10000 < x.price
          · rw [hall (by rw [hw]; simp; omega)]
            simp (maxSteps := 1000000) (implicitDefEqProofs := false) only [g1, g2, g3, g4, Int.natCast_nonneg, Int.toNat_natCast, List.getElem?_map, encArt, a1, a2, a3, a4, Try.ntmps20, Try.results20, efc20, fc20, ss, sd, zH, qG, zF, zG, St.get, qE, qF, qB, zC, norm, look, zE, qA, qI, St.alloc, St.drop, zA, part, zB, depth, qD, ↓reduceIte, Nat.reduceBEq, Nat.reduceAdd, Nat.reduceSub, Nat.reduceMul, Nat.reduceEqDiff, Nat.reduceLeDiff, Nat.reduceLT, qJ, qK, qL, qM, qN, qO, qP, qQ, qR, zI, qS, qC, qT, evSlice0, qV, qW, qX, qY, qZ, zJ, zK, zL, wit, Option.isSome_some, qH, xJ, evPre, St.with, zD, Array.size, evLitX, evAppX, evCold, nameT, te, einl, inls, efr]
          · simp (maxSteps := 1000000) (implicitDefEqProofs := false) only [g1, g2, g3, g4, Int.natCast_nonneg, Int.toNat_natCast, List.getElem?_map, encArt, a1, a2, a3, a4, ss, sd, zH, qG, zF, zG, St.get, qE, qF, qB, zC, norm, look, zE, qA, qI, St.alloc, St.drop, zA, part, zB, depth, qD, ↓reduceIte, Nat.reduceBEq, Nat.reduceAdd, Nat.reduceSub, Nat.reduceMul, Nat.reduceEqDiff, Nat.reduceLeDiff, Nat.reduceLT, qJ, qK, qL, qM, qN, qO, qP, qQ, qR, zI, qS, qC, qT, evSlice0, qV, qW, qX, qY, qZ, zJ, zK, zL, wit, Option.isSome_some, qH, xJ, evPre, St.with, zD, Array.size, evLitX, evAppX, evCold, nameT, te, einl, inls, efr]
            refine ⟨(), ?_⟩
            rw [List.all_append, hi, List.all_cons, List.all_nil, hw]
            simp; omega

theorem c21 (l : List Art) (hn : l.length ≤ 100000) : (orcω E X0).call 21 [.sl false (l.map encArt)] = some (.int .i64 (validA l)) := by
  refine call_of rfl fn21 rfl ?_
  unfold validA
  by_cases hl : 5 < l.length
  · have hl' : (5 : Int) < l.length := by omega
    rw [if_pos hl]
    simp (maxSteps := 1000000) (implicitDefEqProofs := false) only [Try.ntmps21, Try.results21, efc21, fc21, hl', ss, sd, zH, qG, zF, zG, St.get, qE, qF, qB, zC, norm, look, zE, qA, qI, St.alloc, St.drop, zA, part, zB, depth, qD, ↓reduceIte, Nat.reduceBEq, Nat.reduceAdd, Nat.reduceSub, Nat.reduceMul, Nat.reduceEqDiff, Nat.reduceLeDiff, Nat.reduceLT, qJ, qK, qL, qM, qN, qO, qP, qQ, qR, zI, qS, qC, qT, evSlice0, qV, qW, qX, qY, qZ, zJ, zK, zL, wit, Option.isSome_some, qH, xJ, evPre, St.with, zD, Array.size, evLitX, evAppX, evCold, nameT, te, einl, inls, efr]
  have hl' : ¬ (5 : Int) < l.length := by omega
  rw [if_neg hl]
  simp (maxSteps := 1000000) (implicitDefEqProofs := false) only [Try.ntmps21, Try.results21, efc21, fc21, hl', ss, sd, zH, qG, zF, zG, St.get, qE, qF, qB, zC, norm, look, zE, qA, qI, St.alloc, St.drop, zA, part, zB, depth, qD, ↓reduceIte, Nat.reduceBEq, Nat.reduceAdd, Nat.reduceSub, Nat.reduceMul, Nat.reduceEqDiff, Nat.reduceLeDiff, Nat.reduceLT, qJ, qK, qL, qM, qN, qO, qP, qQ, qR, zI, qS, qC, qT, evSlice0, qV, qW, qX, qY, qZ, zJ, zK, zL, wit, Option.isSome_some, qH, xJ, evPre, St.with, zD, Array.size, evLitX, evAppX, evCold, nameT, te, einl, inls, efr]
  generalize hr : loopAt _ _ _ _ _ _ = r; revert r
  refine loop_list l (fun pre _ => [(3, .int .i64 pre.length)]) (fun _ _ => []) (fun pre (_ : Unit) => pre.all wellA = true) () (by omega) (by simp (maxSteps := 1000000) (implicitDefEqProofs := false) only [ss, sd, zH, qG, zF, zG, St.get, qE, qF, qB, zC, norm, look, zE, qA, qI, St.alloc, St.drop, zA, part, zB, depth, qD, ↓reduceIte, Nat.reduceBEq, Nat.reduceAdd, Nat.reduceSub, Nat.reduceMul, Nat.reduceEqDiff, Nat.reduceLeDiff, Nat.reduceLT, qJ, qK, qL, qM, qN, qO, qP, qQ, qR, zI, qS, qC, qT, evSlice0, qV, qW, qX, qY, qZ, zJ, zK, zL, wit, Option.isSome_some, qH, xJ, evPre, St.with, zD, Array.size, evLitX, evAppX, evCold, nameT, te, einl, inls, efr]) rfl (fun _ hi => ?_) (fun pre x post _ hp hi g1 g2 g3 g4 => ?_)
  · rw [if_pos hi]
    simp (maxSteps := 1000000) (implicitDefEqProofs := false) only [Int.lt_irrefl, Try.ntmps21, Try.results21, efc21, fc21, ss, sd, zH, qG, zF, zG, St.get, qE, qF, qB, zC, norm, look, zE, qA, qI, St.alloc, St.drop, zA, part, zB, depth, qD, ↓reduceIte, Nat.reduceBEq, Nat.reduceAdd, Nat.reduceSub, Nat.reduceMul, Nat.reduceEqDiff, Nat.reduceLeDiff, Nat.reduceLT, qJ, qK, qL, qM, qN, qO, qP, qQ, qR, zI, qS, qC, qT, evSlice0, qV, qW, qX, qY, qZ, zJ, zK, zL, wit, Option.isSome_some, qH, xJ, evPre, St.with, zD, Array.size, evLitX, evAppX, evCold, nameT, te, einl, inls, efr]
  · have hall : wellA x = false → l.all wellA = false := fun h => all_mem hp h
    have k1 := c54 x.len 1 300
    have k2 := c54 x.price 0 10000
    have hw : wellA x = (inB x.len 1 300 && inB x.price 0 10000) := rfl
    generalize inB x.len 1 300 = b1 at *
    generalize inB x.price 0 10000 = b2 at *
    cases b1
    · rw [hall hw]
      simp (maxSteps := 1000000) (implicitDefEqProofs := false) only [g1, g2, g3, g4, Int.natCast_nonneg, Int.toNat_natCast, List.getElem?_map, encArt, k1, Try.ntmps21, Try.results21, efc21, fc21, ss, sd, zH, qG, zF, zG, St.get, qE, qF, qB, zC, norm, look, zE, qA, qI, St.alloc, St.drop, zA, part, zB, depth, qD, ↓reduceIte, Nat.reduceBEq, Nat.reduceAdd, Nat.reduceSub, Nat.reduceMul, Nat.reduceEqDiff, Nat.reduceLeDiff, Nat.reduceLT, qJ, qK, qL, qM, qN, qO, qP, qQ, qR, zI, qS, qC, qT, evSlice0, qV, qW, qX, qY, qZ, zJ, zK, zL, wit, Option.isSome_some, qH, xJ, evPre, St.with, zD, Array.size, evLitX, evAppX, evCold, nameT, te, einl, inls, efr]
    · cases b2
      · rw [hall hw]
        simp (maxSteps := 1000000) (implicitDefEqProofs := false) only [g1, g2, g3, g4, Int.natCast_nonneg, Int.toNat_natCast, List.getElem?_map, encArt, k1, k2, Try.ntmps21, Try.results21, efc21, fc21, ss, sd, zH, qG, zF, zG, St.get, qE, qF, qB, zC, norm, look, zE, qA, qI, St.alloc, St.drop, zA, part, zB, depth, qD, ↓reduceIte, Nat.reduceBEq, Nat.reduceAdd, Nat.reduceSub, Nat.reduceMul, Nat.reduceEqDiff, Nat.reduceLeDiff, Nat.reduceLT, qJ, qK, qL, qM, qN, qO, qP, qQ, qR, zI, qS, qC, qT, evSlice0, qV, qW, qX, qY, qZ, zJ, zK, zL, wit, Option.isSome_some, qH, xJ, evPre, St.with, zD, Array.size, evLitX, evAppX, evCold, nameT, te, einl, inls, efr]
      · simp (maxSteps := 1000000) (implicitDefEqProofs := false) only [g1, g2, g3, g4, Int.natCast_nonneg, Int.toNat_natCast, List.getElem?_map, encArt, k1, k2, ss, sd, zH, qG, zF, zG, St.get, qE, qF, qB, zC, norm, look, zE, qA, qI, St.alloc, St.drop, zA, part, zB, depth, qD, ↓reduceIte, Nat.reduceBEq, Nat.reduceAdd, Nat.reduceSub, Nat.reduceMul, Nat.reduceEqDiff, Nat.reduceLeDiff, Nat.reduceLT, qJ, qK, qL, qM, qN, qO, qP, qQ, qR, zI, qS, qC, qT, evSlice0, qV, qW, qX, qY, qZ, zJ, zK, zL, wit, Option.isSome_some, qH, xJ, evPre, St.with, zD, Array.size, evLitX, evAppX, evCold, nameT, te, einl, inls, efr]
        exact ⟨(), by rw [List.all_append, hi, List.all_cons, List.all_nil, hw]; rfl⟩

def long (xs : List Run) (l : List Art) (n : Nat) : Bool := decide ((100 : Int) < xs.length) || (decide ((40 : Int) < l.length) || decide ((400 : Int) < n))

theorem c16 (xs : List Run) (l : List Art) (t : Bool) (ps : List V) : (orcω E X0).call 16 [.sl false (xs.map encRun), .sl false (l.map encArt), .sl t ps] = some (.bool (long xs l ps.length)) := by
  refine call_of rfl fn16 rfl ?_
  have k1 := c46 false xs
  unfold long
  by_cases a1 : (100 : Int) < xs.length
  · simp only [a1, decide_true] at k1
    simp (maxSteps := 1000000) (implicitDefEqProofs := false) only [Try.ntmps16, Try.results16, efc16, k1, a1, ss, sd, zH, qG, zF, zG, St.get, qE, qF, qB, zC, norm, look, zE, qA, qI, St.alloc, St.drop, zA, part, zB, depth, qD, ↓reduceIte, Nat.reduceBEq, Nat.reduceAdd, Nat.reduceSub, Nat.reduceMul, Nat.reduceEqDiff, Nat.reduceLeDiff, Nat.reduceLT, qJ, qK, qL, qM, qN, qO, qP, qQ, qR, zI, qS, qC, qT, evSlice0, qV, qW, qX, qY, qZ, zJ, zK, zL, wit, Option.isSome_some, qH, xJ, evPre, St.with, zD, Array.size, evLitX, evAppX, evCold, nameT, te, einl, inls, efr]
  · simp only [a1, decide_false] at k1
    by_cases a2 : (40 : Int) < l.length
    · simp (maxSteps := 1000000) (implicitDefEqProofs := false) only [Try.ntmps16, Try.results16, efc16, k1, a1, a2, ss, sd, zH, qG, zF, zG, St.get, qE, qF, qB, zC, norm, look, zE, qA, qI, St.alloc, St.drop, zA, part, zB, depth, qD, ↓reduceIte, Nat.reduceBEq, Nat.reduceAdd, Nat.reduceSub, Nat.reduceMul, Nat.reduceEqDiff, Nat.reduceLeDiff, Nat.reduceLT, qJ, qK, qL, qM, qN, qO, qP, qQ, qR, zI, qS, qC, qT, evSlice0, qV, qW, qX, qY, qZ, zJ, zK, zL, wit, Option.isSome_some, qH, xJ, evPre, St.with, zD, Array.size, evLitX, evAppX, evCold, nameT, te, einl, inls, efr]
    · by_cases a3 : (400 : Int) < ps.length
      · simp (maxSteps := 1000000) (implicitDefEqProofs := false) only [Try.ntmps16, Try.results16, efc16, k1, a1, a2, a3, ss, sd, zH, qG, zF, zG, St.get, qE, qF, qB, zC, norm, look, zE, qA, qI, St.alloc, St.drop, zA, part, zB, depth, qD, ↓reduceIte, Nat.reduceBEq, Nat.reduceAdd, Nat.reduceSub, Nat.reduceMul, Nat.reduceEqDiff, Nat.reduceLeDiff, Nat.reduceLT, qJ, qK, qL, qM, qN, qO, qP, qQ, qR, zI, qS, qC, qT, evSlice0, qV, qW, qX, qY, qZ, zJ, zK, zL, wit, Option.isSome_some, qH, xJ, evPre, St.with, zD, Array.size, evLitX, evAppX, evCold, nameT, te, einl, inls, efr]
      · simp (maxSteps := 1000000) (implicitDefEqProofs := false) only [Try.ntmps16, Try.results16, efc16, k1, a1, a2, a3, ss, sd, zH, qG, zF, zG, St.get, qE, qF, qB, zC, norm, look, zE, qA, qI, St.alloc, St.drop, zA, part, zB, depth, qD, ↓reduceIte, Nat.reduceBEq, Nat.reduceAdd, Nat.reduceSub, Nat.reduceMul, Nat.reduceEqDiff, Nat.reduceLeDiff, Nat.reduceLT, qJ, qK, qL, qM, qN, qO, qP, qQ, qR, zI, qS, qC, qT, evSlice0, qV, qW, qX, qY, qZ, zJ, zK, zL, wit, Option.isSome_some, qH, xJ, evPre, St.with, zD, Array.size, evLitX, evAppX, evCold, nameT, te, einl, inls, efr]

theorem known_yes : isYes ((orc E X0 60).call 17 []) = true := by decide +kernel

theorem c17 : (orcω E X0).call 17 [] = some (.bool true) := (orcω_le 60).call _ _ _ (isYes_eq known_yes)

end Go.AM.C
end

section
namespace Go.AM.C
open Go Go.Proofs

def fitA (ms : List Mk) (a : Art) (x : Int) : Bool := decide (0 ≤ x) && (decide (x ≤ (ms.length : Int) - a.len) && ((ms.drop x.toNat).take a.len.toNat).all (holds a.q))
def fitsM (ms : List Mk) (l : List Art) (x k : Int) : Bool := if 0 ≤ k then (match l[k.toNat]? with | some a => fitA ms a x | none => false) else false

theorem validA_len {l : List Art} (h : validA l = 0) : l.length ≤ 5 ∧ ∀ a ∈ l, (1 ≤ a.len ∧ a.len ≤ 300) ∧ 0 ≤ a.price ∧ a.price ≤ 10000 := by
  unfold validA at h
  split at h
  · cases h
  · split at h
    · rename_i h1 h2
      refine ⟨by omega, fun a ha => ?_⟩
      have := List.all_eq_true.1 h2 a ha
      simpa [wellA, inB] using this
    · cases h

theorem okT53 : okCode (Try.f53.body.getD .skip) = true := by decide +kernel

set_option maxHeartbeats 4000000 in
theorem c53 (ms : List Mk) (l : List Art) (x k : Int) (hn : ms.length ≤ 100000) (hl : validA l = 0) :
    (orcω E X0).call 53 [.sl false (ms.map encMk), .sl false (l.map encArt), .agg [.int .i64 x, .int .i64 k]] = some (.bool (fitsM ms l x k)) := by
  refine call_of rfl fn53 rfl ?_
  have hok := okT53
  simp only [Try.f53, Option.getD_some, okCode, Bool.and_eq_true, Bool.and_true, Bool.true_and] at hok
  obtain ⟨l1, l2⟩ := validA_len hl
  unfold fitsM
  try simp only [and_assoc] at hok
  obtain ⟨hk1, hk2⟩ := hok
  by_cases a1 : k < 0
  · rw [if_neg (by omega)]
    simp (maxSteps := 1000000) (implicitDefEqProofs := false) only [Try.ntmps53, Try.results53, efc53, fc53, a1, evRegion_st hk1, evRegion_st hk2, ss, sd, zH, qG, zF, zG, St.get, qE, qF, qB, zC, norm, look, zE, qA, qI, St.alloc, St.drop, zA, part, zB, depth, qD, ↓reduceIte, Nat.reduceBEq, Nat.reduceAdd, Nat.reduceSub, Nat.reduceMul, Nat.reduceEqDiff, Nat.reduceLeDiff, Nat.reduceLT, qJ, qK, qL, qM, qN, qO, qP, qQ, qR, zI, qS, qC, qT, evSlice0, qV, qW, qX, qY, qZ, zJ, zK, zL, wit, Option.isSome_some, qH, xJ, evPre, St.with, zD, Array.size, evLitX, evAppX, evCold, nameT, te, einl, inls, efr]
  rw [if_pos (by omega)]
  by_cases a2 : (l.length : Int) ≤ k
  · rw [List.getElem?_eq_none (by omega)]
    simp (maxSteps := 1000000) (implicitDefEqProofs := false) only [Try.ntmps53, Try.results53, efc53, fc53, a1, a2, evRegion_st hk1, evRegion_st hk2, ss, sd, zH, qG, zF, zG, St.get, qE, qF, qB, zC, norm, look, zE, qA, qI, St.alloc, St.drop, zA, part, zB, depth, qD, ↓reduceIte, Nat.reduceBEq, Nat.reduceAdd, Nat.reduceSub, Nat.reduceMul, Nat.reduceEqDiff, Nat.reduceLeDiff, Nat.reduceLT, qJ, qK, qL, qM, qN, qO, qP, qQ, qR, zI, qS, qC, qT, evSlice0, qV, qW, qX, qY, qZ, zJ, zK, zL, wit, Option.isSome_some, qH, xJ, evPre, St.with, zD, Array.size, evLitX, evAppX, evCold, nameT, te, einl, inls, efr]
  have g0 : k.toNat < l.length := by omega
  have g1 : l[k.toNat]? = some l[k.toNat] := List.getElem?_eq_getElem g0
  have g2 := l2 l[k.toNat] (List.getElem_mem g0)
  generalize l[k.toNat] = a at *
  have hf : (match l[k.toNat]? with | some a => fitA ms a x | none => false) = fitA ms a x := by rw [g1]
  rw [hf]
  have g3 : 0 ≤ k := by omega
  have g4 : k < (l.length : Int) := by omega
  unfold fitA
  by_cases a3 : x < 0
  · rw [decide_eq_false (by omega)]
    simp (maxSteps := 1000000) (implicitDefEqProofs := false) only [Try.ntmps53, Try.results53, efc53, fc53, a1, a2, a3, evRegion_st hk1, evRegion_st hk2, ss, sd, zH, qG, zF, zG, St.get, qE, qF, qB, zC, norm, look, zE, qA, qI, St.alloc, St.drop, zA, part, zB, depth, qD, ↓reduceIte, Nat.reduceBEq, Nat.reduceAdd, Nat.reduceSub, Nat.reduceMul, Nat.reduceEqDiff, Nat.reduceLeDiff, Nat.reduceLT, qJ, qK, qL, qM, qN, qO, qP, qQ, qR, zI, qS, qC, qT, evSlice0, qV, qW, qX, qY, qZ, zJ, zK, zL, wit, Option.isSome_some, qH, xJ, evPre, St.with, zD, Array.size, evLitX, evAppX, evCold, nameT, te, einl, inls, efr]
  have w1 : IntKind.i64.wrap ((ms.length : Int) - a.len) = ms.length - a.len := wrap_in (by omega)
  rw [decide_eq_true (show 0 ≤ x by omega), Bool.true_and]
  by_cases a4 : (ms.length : Int) - a.len < x
  · rw [decide_eq_false (by omega)]
    simp (maxSteps := 1000000) (implicitDefEqProofs := false) only [Try.ntmps53, Try.results53, efc53, fc53, a1, a2, a3, a4, g1, g3, g4, w1, List.getElem?_map, encArt, evRegion_st hk1, evRegion_st hk2, ss, sd, zH, qG, zF, zG, St.get, qE, qF, qB, zC, norm, look, zE, qA, qI, St.alloc, St.drop, zA, part, zB, depth, qD, ↓reduceIte, Nat.reduceBEq, Nat.reduceAdd, Nat.reduceSub, Nat.reduceMul, Nat.reduceEqDiff, Nat.reduceLeDiff, Nat.reduceLT, qJ, qK, qL, qM, qN, qO, qP, qQ, qR, zI, qS, qC, qT, evSlice0, qV, qW, qX, qY, qZ, zJ, zK, zL, wit, Option.isSome_some, qH, xJ, evPre, St.with, zD, Array.size, evLitX, evAppX, evCold, nameT, te, einl, inls, efr]
  rw [decide_eq_true (show x ≤ (ms.length : Int) - a.len by omega), Bool.true_and]
  simp (maxSteps := 1000000) (implicitDefEqProofs := false) only [Try.ntmps53, Try.results53, efc53, fc53, a1, a2, a3, a4, g1, g3, g4, w1, List.getElem?_map, encArt, evRegion_st hk1, evRegion_st hk2, ss, sd, zH, qG, zF, zG, St.get, qE, qF, qB, zC, norm, look, zE, qA, qI, St.alloc, St.drop, zA, part, zB, depth, qD, ↓reduceIte, Nat.reduceBEq, Nat.reduceAdd, Nat.reduceSub, Nat.reduceMul, Nat.reduceEqDiff, Nat.reduceLeDiff, Nat.reduceLT, qJ, qK, qL, qM, qN, qO, qP, qQ, qR, zI, qS, qC, qT, evSlice0, qV, qW, qX, qY, qZ, zJ, zK, zL, wit, Option.isSome_some, qH, xJ, evPre, St.with, zD, Array.size, evLitX, evAppX, evCold, nameT, te, einl, inls, efr]
  generalize hr : loopAt _ _ _ _ _ _ = r; revert r
  refine loop_inv (ι := { i : Nat // (i : Int) ≤ a.len ∧ ((ms.drop x.toNat).take i).all (holds a.q) = true }) (fun i => [(7, .int .i64 i.1)]) (fun _ => [(5, { es := 2, flat := true, t := true, app := false, elems := [.agg [.int .i64 x, .int .i64 k]] })]) (fun i => a.len.toNat - i.1) ⟨0, by omega, rfl⟩ (by simp (maxSteps := 1000000) (implicitDefEqProofs := false) only [ss, sd, zH, qG, zF, zG, St.get, qE, qF, qB, zC, norm, look, zE, qA, qI, St.alloc, St.drop, zA, part, zB, depth, qD, ↓reduceIte, Nat.reduceBEq, Nat.reduceAdd, Nat.reduceSub, Nat.reduceMul, Nat.reduceEqDiff, Nat.reduceLeDiff, Nat.reduceLT, qJ, qK, qL, qM, qN, qO, qP, qQ, qR, zI, qS, qC, qT, evSlice0, qV, qW, qX, qY, qZ, zJ, zK, zL, wit, Option.isSome_some, qH, xJ, evPre, St.with, zD, Array.size, evLitX, evAppX, evCold, nameT, te, einl, inls, efr]) ?_
  rintro ⟨i, hi, hall⟩
  dsimp only
  by_cases hlt : (i : Int) < a.len
  · have g5 : (x + i).toNat < ms.length := by omega
    have g6 : ms[(x + i).toNat]? = some ms[(x + i).toNat] := List.getElem?_eq_getElem g5
    generalize ms[(x + i).toNat] = m at *
    have w2 : IntKind.i64.wrap (x + i) = x + i := wrap_in (by omega)
    have w3 : IntKind.i64.wrap ((i : Int) + 1) = ((i + 1 : Nat) : Int) := by rw [wrap_in (by omega)]; omega
    have g7 : 0 ≤ x + (i : Int) := by omega
    have g8 : x + (i : Int) < ms.length := by omega
    have k1 := c72 a.q m
    have hnext : ((ms.drop x.toNat).take (i + 1)).all (holds a.q) = holds a.q m := by
      rw [List.take_add_one, List.all_append, hall, Bool.true_and, List.getElem?_drop, show x.toNat + i = (x + i).toNat by omega, g6]
      simp
    cases hh : holds a.q m with
    | false =>
      rw [hh] at k1 hnext
      have hres : ((ms.drop x.toNat).take a.len.toNat).all (holds a.q) = false := by
        cases hr : ((ms.drop x.toNat).take a.len.toNat).all (holds a.q) with
        | false => rfl
        | true =>
          exfalso
          have h9 : ((ms.drop x.toNat).take (i + 1)).all (holds a.q) = true := by
            rw [List.all_eq_true] at hr ⊢
            intro y hy
            refine hr y ?_
            rw [show (ms.drop x.toNat).take (i + 1) = ((ms.drop x.toNat).take a.len.toNat).take (i + 1) by rw [List.take_take]; congr 1; omega] at hy
            exact List.mem_of_mem_take hy
          rw [hnext] at h9
          cases h9
      rw [hres]
      simp only [encQ, encMk] at k1
      simp (maxSteps := 1000000) (implicitDefEqProofs := false) only [hlt, g1, g3, g4, g6, g7, g8, w2, w3, k1, List.getElem?_map, encArt, encMk, evRegion_st hk1, evRegion_st hk2, Try.ntmps53, Try.results53, efc53, fc53, ss, sd, zH, qG, zF, zG, St.get, qE, qF, qB, zC, norm, look, zE, qA, qI, St.alloc, St.drop, zA, part, zB, depth, qD, ↓reduceIte, Nat.reduceBEq, Nat.reduceAdd, Nat.reduceSub, Nat.reduceMul, Nat.reduceEqDiff, Nat.reduceLeDiff, Nat.reduceLT, qJ, qK, qL, qM, qN, qO, qP, qQ, qR, zI, qS, qC, qT, evSlice0, qV, qW, qX, qY, qZ, zJ, zK, zL, wit, Option.isSome_some, qH, xJ, evPre, St.with, zD, Array.size, evLitX, evAppX, evCold, nameT, te, einl, inls, efr]
    | true =>
      rw [hh] at k1 hnext
      simp only [encQ, encMk] at k1
      simp (maxSteps := 1000000) (implicitDefEqProofs := false) only [hlt, g1, g3, g4, g6, g7, g8, w2, w3, k1, List.getElem?_map, encArt, encMk, evRegion_st hk1, evRegion_st hk2, ss, sd, zH, qG, zF, zG, St.get, qE, qF, qB, zC, norm, look, zE, qA, qI, St.alloc, St.drop, zA, part, zB, depth, qD, ↓reduceIte, Nat.reduceBEq, Nat.reduceAdd, Nat.reduceSub, Nat.reduceMul, Nat.reduceEqDiff, Nat.reduceLeDiff, Nat.reduceLT, qJ, qK, qL, qM, qN, qO, qP, qQ, qR, zI, qS, qC, qT, evSlice0, qV, qW, qX, qY, qZ, zJ, zK, zL, wit, Option.isSome_some, qH, xJ, evPre, St.with, zD, Array.size, evLitX, evAppX, evCold, nameT, te, einl, inls, efr]
      exact ⟨⟨i + 1, by omega, hnext⟩, rfl, by dsimp only; omega⟩
  · have : a.len.toNat = i := by omega
    rw [this, hall]
    simp (maxSteps := 1000000) (implicitDefEqProofs := false) only [hlt, g1, g3, g4, List.getElem?_map, encArt, evRegion_st hk1, evRegion_st hk2, Try.ntmps53, Try.results53, efc53, fc53, ss, sd, zH, qG, zF, zG, St.get, qE, qF, qB, zC, norm, look, zE, qA, qI, St.alloc, St.drop, zA, part, zB, depth, qD, ↓reduceIte, Nat.reduceBEq, Nat.reduceAdd, Nat.reduceSub, Nat.reduceMul, Nat.reduceEqDiff, Nat.reduceLeDiff, Nat.reduceLT, qJ, qK, qL, qM, qN, qO, qP, qQ, qR, zI, qS, qC, qT, evSlice0, qV, qW, qX, qY, qZ, zJ, zK, zL, wit, Option.isSome_some, qH, xJ, evPre, St.with, zD, Array.size, evLitX, evAppX, evCold, nameT, te, einl, inls, efr]

end Go.AM.C
end

section
namespace Go.AM.C
open Go Go.Proofs

def errM (xs : List Run) (l : List Art) : Int := if validate xs = 0 then (if 300 < total xs then 4 else validA l) else validate xs
def marksM (xs : List Run) (l : List Art) : List Mk × Int := if errM xs l = 0 then (expand xs, 0) else ([], errM xs l)
def encMks (x : List Mk × Int) : V := .tup [.sl true (x.1.map encMk), .int .i64 x.2]

theorem errM_zero {xs : List Run} {l : List Art} (h : errM xs l = 0) : validate xs = 0 ∧ total xs ≤ 300 ∧ validA l = 0 := by
  unfold errM at h
  split at h
  · rename_i h1
    split at h
    · cases h
    · exact ⟨h1, by omega, h⟩
  · rename_i h1; exact absurd h h1

theorem lengthM_zero {xs : List Run} (h : validate xs = 0) : lengthM xs = (total xs, 0) := by
  unfold lengthM
  rw [if_pos h, ln_total (valid_okay h).1]

set_option maxHeartbeats 4000000 in
theorem c52 (xs : List Run) (l : List Art) (hx : xs.length ≤ 100000) (hl : l.length ≤ 100000) :
    (orcω E X0).call 52 [.sl false (xs.map encRun), .sl false (l.map encArt)] = some (encMks (marksM xs l)) := by
  refine call_of rfl fn52 rfl ?_
  have k1 := c71 false xs (by omega)
  have k2 := c21 l hl
  by_cases hv : validate xs = 0
  · rw [lengthM_zero hv] at k1
    simp only [encLen] at k1
    by_cases ht : 300 < total xs
    · have he : errM xs l = 4 := by unfold errM; rw [if_pos hv, if_pos ht]
      unfold marksM
      rw [if_neg (by rw [he]; decide), he]
      simp (maxSteps := 1000000) (implicitDefEqProofs := false) only [Try.ntmps52, Try.results52, efc52, fc52, k1, ht, bne_self_eq_false, encMks, List.map_nil, ss, sd, zH, qG, zF, zG, St.get, qE, qF, qB, zC, norm, look, zE, qA, qI, St.alloc, St.drop, zA, part, zB, depth, qD, ↓reduceIte, Nat.reduceBEq, Nat.reduceAdd, Nat.reduceSub, Nat.reduceMul, Nat.reduceEqDiff, Nat.reduceLeDiff, Nat.reduceLT, qJ, qK, qL, qM, qN, qO, qP, qQ, qR, zI, qS, qC, qT, evSlice0, qV, qW, qX, qY, qZ, zJ, zK, zL, wit, Option.isSome_some, qH, xJ, evPre, St.with, zD, Array.size, evLitX, evAppX, evCold, nameT, te, einl, inls, efr]
    · have he : errM xs l = validA l := by unfold errM; rw [if_pos hv, if_neg ht]
      by_cases ha : validA l = 0
      · unfold marksM
        rw [if_pos (by rw [he, ha])]
        rw [ha] at k2
        simp (maxSteps := 1000000) (implicitDefEqProofs := false) only [Try.ntmps52, Try.results52, efc52, fc52, k1, k2, ht, bne_self_eq_false, encMks, List.map_nil, ss, sd, zH, qG, zF, zG, St.get, qE, qF, qB, zC, norm, look, zE, qA, qI, St.alloc, St.drop, zA, part, zB, depth, qD, ↓reduceIte, Nat.reduceBEq, Nat.reduceAdd, Nat.reduceSub, Nat.reduceMul, Nat.reduceEqDiff, Nat.reduceLeDiff, Nat.reduceLT, qJ, qK, qL, qM, qN, qO, qP, qQ, qR, zI, qS, qC, qT, evSlice0, qV, qW, qX, qY, qZ, zJ, zK, zL, wit, Option.isSome_some, qH, xJ, evPre, St.with, zD, Array.size, evLitX, evAppX, evCold, nameT, te, einl, inls, efr]
        obtain ⟨o1, o2, o3⟩ := valid_okay hv
        have e1 := expand_len o1
        generalize hr : loopAt _ _ _ _ _ _ = r; revert r
        refine loop_list xs (fun pre _ => [(9, .own 9 0 (expand pre).length), (10, .int .i64 pre.length)]) (fun pre _ => [(9, { es := 3, flat := true, t := true, app := true, elems := (expand pre).map encMk })]) (fun _ (_ : Unit) => True) () (by omega) (by simp (maxSteps := 1000000) (implicitDefEqProofs := false) only [expand_nil, ss, sd, zH, qG, zF, zG, St.get, qE, qF, qB, zC, norm, look, zE, qA, qI, St.alloc, St.drop, zA, part, zB, depth, qD, ↓reduceIte, Nat.reduceBEq, Nat.reduceAdd, Nat.reduceSub, Nat.reduceMul, Nat.reduceEqDiff, Nat.reduceLeDiff, Nat.reduceLT, qJ, qK, qL, qM, qN, qO, qP, qQ, qR, zI, qS, qC, qT, evSlice0, qV, qW, qX, qY, qZ, zJ, zK, zL, wit, Option.isSome_some, qH, xJ, evPre, St.with, zD, Array.size, evLitX, evAppX, evCold, nameT, te, einl, inls, efr]) trivial (fun _ _ => ?_) (fun pre r post _ hp _ g1 g2 g3 g4 => ?_)
        · simp (maxSteps := 1000000) (implicitDefEqProofs := false) only [Int.lt_irrefl, Try.ntmps52, Try.results52, efc52, fc52, ss, sd, zH, qG, zF, zG, St.get, qE, qF, qB, zC, norm, look, zE, qA, qI, St.alloc, St.drop, zA, part, zB, depth, qD, ↓reduceIte, Nat.reduceBEq, Nat.reduceAdd, Nat.reduceSub, Nat.reduceMul, Nat.reduceEqDiff, Nat.reduceLeDiff, Nat.reduceLT, qJ, qK, qL, qM, qN, qO, qP, qQ, qR, zI, qS, qC, qT, evSlice0, qV, qW, qX, qY, qZ, zJ, zK, zL, wit, Option.isSome_some, qH, xJ, evPre, St.with, zD, Array.size, evLitX, evAppX, evCold, nameT, te, einl, inls, efr]
        · have p1 := okay_app (hp ▸ o1)
          have p2 := expand_len p1.1
          have p3 := okay_nonneg p1.2
          have p4 := okay_lens o1 r (by rw [hp]; simp)
          have p5 : total pre + total (r :: post) ≤ 300 := by rw [← total_app, ← hp]; omega
          have p6 := okay_nonneg (okay_app (pre := [r]) p1.2).2
          rw [total_cons] at p5
          simp (maxSteps := 1000000) (implicitDefEqProofs := false) only [g1, g2, g3, g4, Int.natCast_nonneg, Int.toNat_natCast, List.getElem?_map, encRun, ss, sd, zH, qG, zF, zG, St.get, qE, qF, qB, zC, norm, look, zE, qA, qI, St.alloc, St.drop, zA, part, zB, depth, qD, ↓reduceIte, Nat.reduceBEq, Nat.reduceAdd, Nat.reduceSub, Nat.reduceMul, Nat.reduceEqDiff, Nat.reduceLeDiff, Nat.reduceLT, qJ, qK, qL, qM, qN, qO, qP, qQ, qR, zI, qS, qC, qT, evSlice0, qV, qW, qX, qY, qZ, zJ, zK, zL, wit, Option.isSome_some, qH, xJ, evPre, St.with, zD, Array.size, evLitX, evAppX, evCold, nameT, te, einl, inls, efr]
          generalize hr : loopAt _ _ _ _ _ _ = r; revert r
          refine loop_inv (ι := { i : Nat // (i : Int) ≤ r.len }) (fun i => [(9, .own 9 0 ((expand pre).length + i.1)), (11, .int .i64 i.1)]) (fun i => [(9, { es := 3, flat := true, t := true, app := true, elems := (expand pre ++ List.replicate i.1 r.mk').map encMk })]) (fun i => r.len.toNat - i.1) ⟨0, by omega⟩ (by simp (maxSteps := 1000000) (implicitDefEqProofs := false) only [List.replicate_zero, List.append_nil, Nat.add_zero, ss, sd, zH, qG, zF, zG, St.get, qE, qF, qB, zC, norm, look, zE, qA, qI, St.alloc, St.drop, zA, part, zB, depth, qD, ↓reduceIte, Nat.reduceBEq, Nat.reduceAdd, Nat.reduceSub, Nat.reduceMul, Nat.reduceEqDiff, Nat.reduceLeDiff, Nat.reduceLT, qJ, qK, qL, qM, qN, qO, qP, qQ, qR, zI, qS, qC, qT, evSlice0, qV, qW, qX, qY, qZ, zJ, zK, zL, wit, Option.isSome_some, qH, xJ, evPre, St.with, zD, Array.size, evLitX, evAppX, evCold, nameT, te, einl, inls, efr]) ?_
          rintro ⟨i, hi⟩
          dsimp only
          have w1 : IntKind.i64.wrap ((i : Int) + 1) = ((i + 1 : Nat) : Int) := by rw [wrap_in (by omega)]; omega
          by_cases hlt : (i : Int) < r.len
          · have hroom : roomy ((expand pre).length + i + 1) 24 = true := by simp [roomy]; omega
            have hbig : (expand pre).length + i + 1 ≤ 4294967296 := by omega
            simp (maxSteps := 1000000) (implicitDefEqProofs := false) only [hlt, g1, g2, g3, g4, w1, hroom, hbig, Int.natCast_nonneg, Int.toNat_natCast, List.getElem?_map, encRun, List.length_map, List.length_append, List.length_replicate, ss, sd, zH, qG, zF, zG, St.get, qE, qF, qB, zC, norm, look, zE, qA, qI, St.alloc, St.drop, zA, part, zB, depth, qD, ↓reduceIte, Nat.reduceBEq, Nat.reduceAdd, Nat.reduceSub, Nat.reduceMul, Nat.reduceEqDiff, Nat.reduceLeDiff, Nat.reduceLT, qJ, qK, qL, qM, qN, qO, qP, qQ, qR, zI, qS, qC, qT, evSlice0, qV, qW, qX, qY, qZ, zJ, zK, zL, wit, Option.isSome_some, qH, xJ, evPre, St.with, zD, Array.size, evLitX, evAppX, evCold, nameT, te, einl, inls, efr]
            have e : List.map encMk (expand pre ++ List.replicate i r.mk') ++ [.agg [.int .i64 r.thick, .int .i64 r.shade, .int .i64 r.flaw]] = List.map encMk (expand pre ++ List.replicate (i + 1) r.mk') := by
              rw [List.replicate_succ', ← List.append_assoc, List.map_append (l₁ := expand pre ++ List.replicate i r.mk')]; rfl
            rw [e]
            exact ⟨⟨i + 1, by omega⟩, rfl, by dsimp only; omega⟩
          · simp (maxSteps := 1000000) (implicitDefEqProofs := false) only [hlt, g1, g2, g3, g4, Int.natCast_nonneg, Int.toNat_natCast, List.getElem?_map, encRun, ss, sd, zH, qG, zF, zG, St.get, qE, qF, qB, zC, norm, look, zE, qA, qI, St.alloc, St.drop, zA, part, zB, depth, qD, ↓reduceIte, Nat.reduceBEq, Nat.reduceAdd, Nat.reduceSub, Nat.reduceMul, Nat.reduceEqDiff, Nat.reduceLeDiff, Nat.reduceLT, qJ, qK, qL, qM, qN, qO, qP, qQ, qR, zI, qS, qC, qT, evSlice0, qV, qW, qX, qY, qZ, zJ, zK, zL, wit, Option.isSome_some, qH, xJ, evPre, St.with, zD, Array.size, evLitX, evAppX, evCold, nameT, te, einl, inls, efr]
            have e : expand (pre ++ [r]) = expand pre ++ List.replicate i r.mk' := by rw [expand_app, expand_cons, expand_nil, List.append_nil, show r.len.toNat = i by omega]
            have e' : (expand (pre ++ [r])).length = (expand pre).length + i := by rw [e, List.length_append, List.length_replicate]
            rw [e', e]
            exact ⟨(), rfl⟩
      · unfold marksM
        rw [if_neg (by rw [he]; exact ha), he]
        have ha' : (validA l != 0) = true := by simpa using ha
        simp (maxSteps := 1000000) (implicitDefEqProofs := false) only [Try.ntmps52, Try.results52, efc52, fc52, k1, k2, ht, ha', bne_self_eq_false, encMks, List.map_nil, ss, sd, zH, qG, zF, zG, St.get, qE, qF, qB, zC, norm, look, zE, qA, qI, St.alloc, St.drop, zA, part, zB, depth, qD, ↓reduceIte, Nat.reduceBEq, Nat.reduceAdd, Nat.reduceSub, Nat.reduceMul, Nat.reduceEqDiff, Nat.reduceLeDiff, Nat.reduceLT, qJ, qK, qL, qM, qN, qO, qP, qQ, qR, zI, qS, qC, qT, evSlice0, qV, qW, qX, qY, qZ, zJ, zK, zL, wit, Option.isSome_some, qH, xJ, evPre, St.with, zD, Array.size, evLitX, evAppX, evCold, nameT, te, einl, inls, efr]
  · have he : errM xs l = validate xs := by unfold errM; rw [if_neg hv]
    unfold marksM
    rw [if_neg (by rw [he]; exact hv), he]
    have hv' : (validate xs != 0) = true := by simpa using hv
    unfold lengthM at k1
    rw [if_neg hv] at k1
    simp only [encLen] at k1
    simp (maxSteps := 1000000) (implicitDefEqProofs := false) only [Try.ntmps52, Try.results52, efc52, fc52, k1, hv', encMks, List.map_nil, ss, sd, zH, qG, zF, zG, St.get, qE, qF, qB, zC, norm, look, zE, qA, qI, St.alloc, St.drop, zA, part, zB, depth, qD, ↓reduceIte, Nat.reduceBEq, Nat.reduceAdd, Nat.reduceSub, Nat.reduceMul, Nat.reduceEqDiff, Nat.reduceLeDiff, Nat.reduceLT, qJ, qK, qL, qM, qN, qO, qP, qQ, qR, zI, qS, qC, qT, evSlice0, qV, qW, qX, qY, qZ, zJ, zK, zL, wit, Option.isSome_some, qH, xJ, evPre, St.with, zD, Array.size, evLitX, evAppX, evCold, nameT, te, einl, inls, efr]

def bitsL (n : Nat) (g : Int → Bool) : List Bool := (List.range (n + 1)).map fun (f : Nat) => g f
def encBits (n : Nat) (g : Int → Bool) : List V := (bitsL n g).map V.bool

def bitAt (len : Int) (ss : List (Int × Int)) (f : Int) : Bool := ss.any fun s => decide (s.1 ≤ f) && decide (f + len ≤ s.2)

theorem bits_len (n : Nat) (g : Int → Bool) : (encBits n g).length = n + 1 := by simp [encBits, bitsL]

theorem bits_get (n : Nat) (g : Int → Bool) {f : Nat} (h : f ≤ n) : (encBits n g)[f]? = some (.bool (g f)) := by
  unfold encBits bitsL
  rw [List.getElem?_map, List.getElem?_map, List.getElem?_range (by omega)]
  rfl

theorem bits_set (n : Nat) (g : Int → Bool) {f : Nat} (h : f ≤ n) (g' : Int → Bool) (h1 : g' f = true) (h2 : ∀ i : Nat, i ≠ f → g' i = g i) : (encBits n g).set f (.bool true) = encBits n g' := by
  apply List.ext_getElem?
  intro i
  by_cases hi : i ≤ n
  · rw [bits_get n g' hi]
    by_cases e : f = i
    · subst e
      rw [List.getElem?_set_self (by rw [bits_len]; omega), h1]
    · rw [List.getElem?_set_ne e, bits_get n g hi, h2 i (fun x => e x.symm)]
  · rw [List.getElem?_eq_none (by rw [List.length_set, bits_len]; omega), List.getElem?_eq_none (by rw [bits_len]; omega)]

theorem bits_zero (n : Nat) (g : Int → Bool) (h : ∀ i : Nat, i ≤ n → g i = false) : List.replicate (n + 1) (V.bool false) = encBits n g := by
  apply List.ext_getElem?
  intro i
  by_cases hi : i ≤ n
  · rw [bits_get n g hi, h i hi, List.getElem?_replicate, if_pos (by omega)]
  · rw [List.getElem?_eq_none (by simp; omega), List.getElem?_eq_none (by rw [bits_len]; omega)]

theorem bits_congr (n : Nat) {g g' : Int → Bool} (h : ∀ i : Nat, i ≤ n → g i = g' i) : encBits n g = encBits n g' := by
  apply List.ext_getElem?
  intro i
  by_cases hi : i ≤ n
  · rw [bits_get n g hi, bits_get n g' hi, h i hi]
  · rw [List.getElem?_eq_none (by rw [bits_len]; omega), List.getElem?_eq_none (by rw [bits_len]; omega)]

theorem bit_fit {xs : List Run} (h : Okay xs) (a : Art) (ha : 1 ≤ a.len) (f : Nat) : bitAt a.len ((spL a.q 0 xs).foldl pushS []) f = fitA (expand xs) a f := by
  have h1 := in_span (q := a.q) (rs := xs) h.1 (a := f) ha
  have e1 := expand_len h
  rw [Bool.eq_iff_iff]
  have h2 : bitAt a.len ((spL a.q 0 xs).foldl pushS []) f = true ↔ ∃ s ∈ (spL a.q 0 xs).foldl pushS [], s.1 ≤ (f : Int) ∧ (f : Int) + a.len ≤ s.2 := by
    unfold bitAt
    rw [List.any_eq_true]
    constructor
    · rintro ⟨s, hs, hd⟩; exact ⟨s, hs, by simpa using hd⟩
    · rintro ⟨s, hs, hd⟩; exact ⟨s, hs, by simpa using hd⟩
  rw [h2, h1]
  unfold fitA
  rw [Bool.and_eq_true, Bool.and_eq_true, decide_eq_true_eq, decide_eq_true_eq, List.all_eq_true, Int.toNat_natCast]
  constructor
  · rintro ⟨h0, hc⟩
    obtain ⟨m, hm, _⟩ := hc (f + a.len - 1) (by omega) (by omega)
    have := (List.getElem?_eq_some_iff.1 hm).1
    refine ⟨h0, by omega, fun y hy => ?_⟩
    obtain ⟨i, hi⟩ := List.mem_iff_getElem?.1 hy
    rw [List.getElem?_take] at hi
    split at hi
    · rw [List.getElem?_drop] at hi
      obtain ⟨m', hm', hh⟩ := hc ((f + i : Nat) : Int) (by omega) (by omega)
      rw [Int.toNat_natCast, hi] at hm'
      cases hm'
      exact hh
    · cases hi
  · rintro ⟨h0, hle, hall⟩
    refine ⟨h0, fun i hi hi2 => ?_⟩
    have hlt : i.toNat < (expand xs).length := by omega
    refine ⟨(expand xs)[i.toNat], List.getElem?_eq_getElem hlt, hall _ ?_⟩
    rw [List.mem_iff_getElem?]
    refine ⟨i.toNat - f, ?_⟩
    rw [List.getElem?_take, if_pos (by omega), List.getElem?_drop, show f + (i.toNat - f) = i.toNat by omega, List.getElem?_eq_getElem hlt]

def encOffer (ms : List Mk) (i : Nat) (a : Art) : V := .agg [.int .i64 a.len, .int .i64 a.q.least, .int .i64 a.q.most, .int .i64 a.q.shade, .int .i64 a.q.flaws, .int .i64 a.price, .int .i64 i, .sl true (encBits ms.length (fitA ms a))]

def offs (ms : List Mk) : Nat → List Art → List V
  | _, [] => []
  | k, a :: l => encOffer ms k a :: offs ms (k + 1) l

theorem offs_snoc (ms : List Mk) (a : Art) : ∀ (l : List Art) (k : Nat), offs ms k (l ++ [a]) = offs ms k l ++ [encOffer ms (k + l.length) a]
  | [], k => rfl
  | b :: l, k => by
    rw [List.cons_append, offs, offs, offs_snoc ms a l (k + 1), List.cons_append, List.length_cons, show k + 1 + l.length = k + (l.length + 1) by omega]

theorem offs_len (ms : List Mk) : ∀ (l : List Art) (k : Nat), (offs ms k l).length = l.length
  | [], k => rfl
  | b :: l, k => by rw [offs, List.length_cons, offs_len ms l, List.length_cons]

theorem offs_get (ms : List Mk) : ∀ (l : List Art) (k i : Nat), (offs ms k l)[i]? = (l[i]?).map (encOffer ms (k + i))
  | [], k, i => by simp [offs]
  | b :: l, k, 0 => rfl
  | b :: l, k, i + 1 => by
    rw [offs, List.getElem?_cons_succ, List.getElem?_cons_succ, offs_get ms l (k + 1) i, show k + 1 + i = k + (i + 1) by omega]

def benchV (xs : List Run) (l : List Art) : V := .agg [.sl false (xs.map encRun), .int .i64 (total xs), .sl true (offs (expand xs) 0 l)]
def bench0 : V := .agg [.sl true [], .int .i64 0, .sl true []]
def layV (xs : List Run) (l : List Art) : V := if errM xs l = 0 then .tup [benchV xs l, .int .i64 0] else .tup [bench0, .int .i64 (errM xs l)]

end Go.AM.C
end

section
namespace Go.AM.C
open Go Go.Proofs

def ob4 : Ob := { es := 3, flat := true, t := true, app := false, elems := [.agg [.emp, .int .i64 0, .emp]] }
def ob8 (xs : List Run) (o : V) : Ob := { es := 3, flat := refFree o, t := false, app := false, elems := [.agg [.sl false (xs.map encRun), .int .i64 ((expand xs).length : Nat), o]] }
def benchOb (xs : List Run) (out : List V) : List (Nat × Ob) := match out with
  | [] => [(4, ob4), (8, ob8 xs .emp)]
  | _ => [(4, ob4), (8, ob8 xs (.own 87 0 out.length)), (87, { es := 8, flat := true, t := true, app := true, elems := out })]

theorem sep_all : ∀ {l : List (Int × Int)}, Sep l → ∀ s ∈ l, s.1 < s.2
  | [], _, s, hs => by cases hs
  | [x], h, s, hs => by
    rcases List.mem_cons.1 hs with rfl | hs
    · exact h
    · cases hs
  | x :: y :: l, h, s, hs => by
    rcases List.mem_cons.1 hs with rfl | hs
    · exact h.1
    · exact sep_all h.2.2 s hs

theorem bitAt_snoc (len : Int) (ss : List (Int × Int)) (s : Int × Int) (f : Int) : bitAt len (ss ++ [s]) f = (bitAt len ss f || (decide (s.1 ≤ f) && decide (f + len ≤ s.2))) := by
  simp [bitAt]

theorem where_in {xs : List Run} {q : Qu} (h : Okay xs) {s : Int × Int} (hs : s ∈ (spL q 0 xs).foldl pushS []) : 0 ≤ s.1 ∧ s.2 ≤ ((expand xs).length : Int) ∧ s.1 < s.2 := by
  have h1 := (joined_sep q xs h.1).2.1 s hs
  have h2 := sep_all (joined_sep q xs h.1).1 s hs
  rw [expand_len h]
  omega

set_option maxHeartbeats 8000000 in
theorem c50 (xs : List Run) (l : List Art) (hx : xs.length ≤ 100000) (hl : l.length ≤ 100000) :
    (orcω E X0).call 50 [.sl false (xs.map encRun), .sl false (l.map encArt)] = some (layV xs l) := by
  refine call_of rfl fn50 rfl ?_
  have k1 := c39 false xs (by omega)
  have k2 := c20 l hl
  by_cases hv : validate xs = 0
  · rw [lengthM_zero hv] at k1
    simp only [encLen] at k1
    by_cases ht : 300 < total xs
    · have he : errM xs l = 4 := by unfold errM; rw [if_pos hv, if_pos ht]
      unfold layV
      rw [if_neg (by rw [he]; decide), he]
      simp (maxSteps := 1000000) (implicitDefEqProofs := false) only [Try.ntmps50, Try.results50, efc50, fc50, k1, ht, bne_self_eq_false, bench0, List.map_nil, ss, sd, zH, qG, zF, zG, St.get, qE, qF, qB, zC, norm, look, zE, qA, qI, St.alloc, St.drop, zA, part, zB, depth, qD, ↓reduceIte, Nat.reduceBEq, Nat.reduceAdd, Nat.reduceSub, Nat.reduceMul, Nat.reduceEqDiff, Nat.reduceLeDiff, Nat.reduceLT, qJ, qK, qL, qM, qN, qO, qP, qQ, qR, zI, qS, qC, qT, evSlice0, qV, qW, qX, qY, qZ, zJ, zK, zL, wit, Option.isSome_some, qH, xJ, evPre, St.with, zD, Array.size, evLitX, evAppX, evCold, nameT, te, einl, inls, efr]
    · have he : errM xs l = validA l := by unfold errM; rw [if_pos hv, if_neg ht]
      by_cases ha : validA l = 0
      · unfold layV
        rw [if_pos (by rw [he, ha])]
        rw [ha] at k2
        obtain ⟨o1, o2, o3⟩ := valid_okay hv
        have e1 := expand_len o1
        obtain ⟨l1, l2⟩ := validA_len ha
        unfold benchV
        rw [← e1] at k1 ht ⊢
        simp (maxSteps := 1000000) (implicitDefEqProofs := false) only [Try.ntmps50, Try.results50, efc50, fc50, k1, k2, ht, bne_self_eq_false, List.map_nil, ss, sd, zH, qG, zF, zG, St.get, qE, qF, qB, zC, norm, look, zE, qA, qI, St.alloc, St.drop, zA, part, zB, depth, qD, ↓reduceIte, Nat.reduceBEq, Nat.reduceAdd, Nat.reduceSub, Nat.reduceMul, Nat.reduceEqDiff, Nat.reduceLeDiff, Nat.reduceLT, qJ, qK, qL, qM, qN, qO, qP, qQ, qR, zI, qS, qC, qT, evSlice0, qV, qW, qX, qY, qZ, zJ, zK, zL, wit, Option.isSome_some, qH, xJ, evPre, St.with, zD, Array.size, evLitX, evAppX, evCold, nameT, te, einl, inls, efr]
        generalize hr : loopAt _ _ _ _ _ _ = r; revert r
        refine loop_list l (fun pre _ => [(43, .int .i64 pre.length)]) (fun pre _ => benchOb xs (offs (expand xs) 0 pre)) (fun _ (_ : Unit) => True) () (by omega) (by simp (maxSteps := 1000000) (implicitDefEqProofs := false) only [offs, benchOb, ob4, ob8, refFree, ss, sd, zH, qG, zF, zG, St.get, qE, qF, qB, zC, norm, look, zE, qA, qI, St.alloc, St.drop, zA, part, zB, depth, qD, ↓reduceIte, Nat.reduceBEq, Nat.reduceAdd, Nat.reduceSub, Nat.reduceMul, Nat.reduceEqDiff, Nat.reduceLeDiff, Nat.reduceLT, qJ, qK, qL, qM, qN, qO, qP, qQ, qR, zI, qS, qC, qT, evSlice0, qV, qW, qX, qY, qZ, zJ, zK, zL, wit, Option.isSome_some, qH, xJ, evPre, St.with, zD, Array.size, evLitX, evAppX, evCold, nameT, te, einl, inls, efr]) trivial (fun _ _ => ?_) (fun pre a post _ hp _ g1 g2 g3 g4 => ?_)
        · cases l with
          | nil => simp (maxSteps := 1000000) (implicitDefEqProofs := false) only [Int.lt_irrefl, Try.ntmps50, Try.results50, efc50, fc50, offs, benchOb, ob4, ob8, refFree, ss, sd, zH, qG, zF, zG, St.get, qE, qF, qB, zC, norm, look, zE, qA, qI, St.alloc, St.drop, zA, part, zB, depth, qD, ↓reduceIte, Nat.reduceBEq, Nat.reduceAdd, Nat.reduceSub, Nat.reduceMul, Nat.reduceEqDiff, Nat.reduceLeDiff, Nat.reduceLT, qJ, qK, qL, qM, qN, qO, qP, qQ, qR, zI, qS, qC, qT, evSlice0, qV, qW, qX, qY, qZ, zJ, zK, zL, wit, Option.isSome_some, qH, xJ, evPre, St.with, zD, Array.size, evLitX, evAppX, evCold, nameT, te, einl, inls, efr]
          | cons b l =>
            simp (maxSteps := 1000000) (implicitDefEqProofs := false) only [Int.lt_irrefl, Try.ntmps50, Try.results50, efc50, fc50, offs, benchOb, ob4, ob8, refFree, ss, sd, zH, qG, zF, zG, St.get, qE, qF, qB, zC, norm, look, zE, qA, qI, St.alloc, St.drop, zA, part, zB, depth, qD, ↓reduceIte, Nat.reduceBEq, Nat.reduceAdd, Nat.reduceSub, Nat.reduceMul, Nat.reduceEqDiff, Nat.reduceLeDiff, Nat.reduceLT, qJ, qK, qL, qM, qN, qO, qP, qQ, qR, zI, qS, qC, qT, evSlice0, qV, qW, qX, qY, qZ, zJ, zK, zL, wit, Option.isSome_some, qH, xJ, evPre, St.with, zD, Array.size, evLitX, evAppX, evCold, nameT, te, einl, inls, efr]
        · have a1 := l2 a (by rw [hp]; simp)
          have k3 := c70 xs a.q hx
          have hS := fun s (hs : s ∈ (spL a.q 0 xs).foldl pushS []) => where_in o1 hs
          have hfit := fun f => bit_fit o1 a (by omega) f
          unfold whereM at k3
          rw [if_pos hv] at k3
          have lS : ((spL a.q 0 xs).foldl pushS []).length ≤ 40 := by have := foldl_pushS_len (spL a.q 0 xs); have := spL_len a.q xs 0; omega
          generalize (spL a.q 0 xs).foldl pushS [] = S at *
          have w0 : IntKind.i64.wrap (((expand xs).length : Int) + 1) = (expand xs).length + 1 := wrap_in (by omega)
          simp only [encWh, encQ] at k3
          have lo := offs_len (expand xs) pre 0
          have so := offs_snoc (expand xs) a pre 0
          rw [so]
          generalize offs (expand xs) 0 pre = out at *
          have hroom : roomy ((expand xs).length + 1) 1 = true := by simp [roomy]; omega
          have w5 : (0 ≤ ((expand xs).length : Int) + 1) = True := by simp; omega
          have w6 : (((expand xs).length : Int) + 1 ≤ 4294967296) = True := by simp; omega
          have w7 : (((expand xs).length : Int) + 1).toNat = (expand xs).length + 1 := by omega
          have z1 : List.replicate ((expand xs).length + 1) (V.bool false) = encBits (expand xs).length (bitAt a.len []) := bits_zero _ _ fun _ _ => rfl
          cases out with
          | nil =>
            simp (maxSteps := 1000000) (implicitDefEqProofs := false) only [g1, g2, g3, g4, Int.natCast_nonneg, Int.toNat_natCast, List.getElem?_map, encArt, benchOb, ob4, ob8, refFree, ss, sd, zH, qG, zF, zG, St.get, qE, qF, qB, zC, norm, look, zE, qA, qI, St.alloc, St.drop, zA, part, zB, depth, qD, ↓reduceIte, Nat.reduceBEq, Nat.reduceAdd, Nat.reduceSub, Nat.reduceMul, Nat.reduceEqDiff, Nat.reduceLeDiff, Nat.reduceLT, qJ, qK, qL, qM, qN, qO, qP, qQ, qR, zI, qS, qC, qT, evSlice0, qV, qW, qX, qY, qZ, zJ, zK, zL, wit, Option.isSome_some, qH, xJ, evPre, St.with, zD, Array.size, evLitX, evAppX, evCold, nameT, te, einl, inls, efr]
            rw [evRegion_dyn]
            rotate_left
            · rfl
            simp (maxSteps := 1000000) (implicitDefEqProofs := false) only [w0, w5, w6, w7, z1, k3, hroom, ss, sd, zH, qG, zF, zG, St.get, qE, qF, qB, zC, norm, look, zE, qA, qI, St.alloc, St.drop, zA, part, zB, depth, qD, ↓reduceIte, Nat.reduceBEq, Nat.reduceAdd, Nat.reduceSub, Nat.reduceMul, Nat.reduceEqDiff, Nat.reduceLeDiff, Nat.reduceLT, qJ, qK, qL, qM, qN, qO, qP, qQ, qR, zI, qS, qC, qT, evSlice0, qV, qW, qX, qY, qZ, zJ, zK, zL, wit, Option.isSome_some, qH, xJ, evPre, St.with, zD, Array.size, evLitX, evAppX, evCold, nameT, te, einl, inls, efr]
            generalize hr : loopAt _ _ _ _ _ _ = r; revert r
            refine loop_list S (fun pre _ => [(63, .int .i64 pre.length)]) (fun pre' _ => [(4, ob4), (8, ob8 xs .emp), (10, { es := 6, flat := true, t := true, app := false, elems := [encArt a] }),
              (11, { es := 8, flat := false, t := true, app := false, elems := [.agg [.int .i64 a.len, .int .i64 a.q.least, .int .i64 a.q.most, .int .i64 a.q.shade, .int .i64 a.q.flaws, .int .i64 a.price, .int .i64 pre.length, .own 52 0 ((expand xs).length + 1)]] }),
              (52, { es := 1, flat := true, t := true, app := true, elems := encBits (expand xs).length (bitAt a.len pre') })]) (fun _ (_ : Unit) => True) () (by omega) (by simp (maxSteps := 1000000) (implicitDefEqProofs := false) only [ob4, ob8, refFree, encArt, ss, sd, zH, qG, zF, zG, St.get, qE, qF, qB, zC, norm, look, zE, qA, qI, St.alloc, St.drop, zA, part, zB, depth, qD, ↓reduceIte, Nat.reduceBEq, Nat.reduceAdd, Nat.reduceSub, Nat.reduceMul, Nat.reduceEqDiff, Nat.reduceLeDiff, Nat.reduceLT, qJ, qK, qL, qM, qN, qO, qP, qQ, qR, zI, qS, qC, qT, evSlice0, qV, qW, qX, qY, qZ, zJ, zK, zL, wit, Option.isSome_some, qH, xJ, evPre, St.with, zD, Array.size, evLitX, evAppX, evCold, nameT, te, einl, inls, efr]) trivial (fun _ _ => ?_) (fun pre' s post' _ hp' _ g1' g2' g3' g4' => ?_)
            · have z2 : encBits (expand xs).length (bitAt a.len S) = encBits (expand xs).length (fitA (expand xs) a) := bits_congr _ fun i _ => hfit i
              have z3 : (encBits (expand xs).length (fitA (expand xs) a)).take ((expand xs).length + 1) = encBits (expand xs).length (fitA (expand xs) a) := List.take_of_length_le (by rw [bits_len]; omega)
              have z4 := bits_len (expand xs).length (fitA (expand xs) a)
              have hr1 : roomy 1 80 = true := by simp [roomy]
              simp (maxSteps := 1000000) (implicitDefEqProofs := false) only [hr1, Int.lt_irrefl, g4, z2, z3, z4, ob4, ob8, refFree, encArt, encOffer, Nat.zero_add, Nat.le_refl, List.drop_zero, ss, sd, zH, qG, zF, zG, St.get, qE, qF, qB, zC, norm, look, zE, qA, qI, St.alloc, St.drop, zA, part, zB, depth, qD, ↓reduceIte, Nat.reduceBEq, Nat.reduceAdd, Nat.reduceSub, Nat.reduceMul, Nat.reduceEqDiff, Nat.reduceLeDiff, Nat.reduceLT, qJ, qK, qL, qM, qN, qO, qP, qQ, qR, zI, qS, qC, qT, evSlice0, qV, qW, qX, qY, qZ, zJ, zK, zL, wit, Option.isSome_some, qH, xJ, evPre, St.with, zD, Array.size, evLitX, evAppX, evCold, nameT, te, einl, inls, efr]
              exact ⟨(), trivial⟩
            · have h0 := hS s (by rw [hp']; simp)
              have gS : S.length ≤ 1000 := by omega
              simp (maxSteps := 1000000) (implicitDefEqProofs := false) only [g1', g2', g3', g4', Int.natCast_nonneg, Int.toNat_natCast, List.getElem?_map, encSp, ob4, ob8, refFree, encArt, ss, sd, zH, qG, zF, zG, St.get, qE, qF, qB, zC, norm, look, zE, qA, qI, St.alloc, St.drop, zA, part, zB, depth, qD, ↓reduceIte, Nat.reduceBEq, Nat.reduceAdd, Nat.reduceSub, Nat.reduceMul, Nat.reduceEqDiff, Nat.reduceLeDiff, Nat.reduceLT, qJ, qK, qL, qM, qN, qO, qP, qQ, qR, zI, qS, qC, qT, evSlice0, qV, qW, qX, qY, qZ, zJ, zK, zL, wit, Option.isSome_some, qH, xJ, evPre, St.with, zD, Array.size, evLitX, evAppX, evCold, nameT, te, einl, inls, efr]
              generalize hr : loopAt _ _ _ _ _ _ = r; revert r
              refine loop_inv (ι := { c : Int // s.1 ≤ c ∧ (c ≤ s.1 ∨ c + a.len ≤ s.2 + 1) }) (fun c => [(16, .int .i64 c.1)]) (fun c => [(4, ob4), (8, ob8 xs .emp), (10, { es := 6, flat := true, t := true, app := false, elems := [encArt a] }),
                  (11, { es := 8, flat := false, t := true, app := false, elems := [.agg [.int .i64 a.len, .int .i64 a.q.least, .int .i64 a.q.most, .int .i64 a.q.shade, .int .i64 a.q.flaws, .int .i64 a.price, .int .i64 pre.length, .own 52 0 ((expand xs).length + 1)]] }),
                  (15, { es := 2, flat := true, t := true, app := false, elems := [encSp s] }),
                  (52, { es := 1, flat := true, t := true, app := true, elems := encBits (expand xs).length (fun f => bitAt a.len pre' f || (decide (s.1 ≤ f) && decide (f < c.1))) })]) (fun c => (s.2 + 1 - c.1).toNat) ⟨s.1, by omega, by omega⟩ ?_ ?_
              · dsimp only
                rw [show encBits (expand xs).length (fun f => bitAt a.len pre' f || (decide (s.1 ≤ f) && decide (f < s.1))) = encBits (expand xs).length (bitAt a.len pre') from bits_congr _ fun i _ => by
                  have : (decide (s.1 ≤ (i : Int)) && decide ((i : Int) < s.1)) = false := by rw [Bool.and_eq_false_iff, decide_eq_false_iff_not, decide_eq_false_iff_not]; omega
                  rw [this, Bool.or_false]]
                simp (maxSteps := 1000000) (implicitDefEqProofs := false) only [ob4, ob8, refFree, encArt, encSp, ss, sd, zH, qG, zF, zG, St.get, qE, qF, qB, zC, norm, look, zE, qA, qI, St.alloc, St.drop, zA, part, zB, depth, qD, ↓reduceIte, Nat.reduceBEq, Nat.reduceAdd, Nat.reduceSub, Nat.reduceMul, Nat.reduceEqDiff, Nat.reduceLeDiff, Nat.reduceLT, qJ, qK, qL, qM, qN, qO, qP, qQ, qR, zI, qS, qC, qT, evSlice0, qV, qW, qX, qY, qZ, zJ, zK, zL, wit, Option.isSome_some, qH, xJ, evPre, St.with, zD, Array.size, evLitX, evAppX, evCold, nameT, te, einl, inls, efr]
              · rintro ⟨c, hc1, hc2⟩
                dsimp only
                have w1 : IntKind.i64.wrap (c + a.len) = c + a.len := wrap_in (by omega)
                have w2 : IntKind.i64.wrap (c + 1) = c + 1 := wrap_in (by omega)
                by_cases hlt : c + a.len ≤ s.2
                · have u1 : (0 ≤ c) = True := by simp; omega
                  have u2 : (c < (((expand xs).length + 1 : Nat) : Int)) = True := by simp; omega
                  have u3 := bits_get (expand xs).length (fun f => bitAt a.len pre' f || (decide (s.1 ≤ f) && decide (f < c))) (f := c.toNat) (by omega)
                  have u4 := bits_set (expand xs).length (fun f => bitAt a.len pre' f || (decide (s.1 ≤ f) && decide (f < c))) (f := c.toNat) (by omega) (fun f => bitAt a.len pre' f || (decide (s.1 ≤ f) && decide (f < c + 1)))
                    (by simp; right; omega) (fun i hi => by
                      have : decide ((i : Int) < c + 1) = decide ((i : Int) < c) := by rw [decide_eq_decide]; omega
                      rw [this])
                  simp (maxSteps := 1000000) (implicitDefEqProofs := false) only [w1, w2, hlt, u1, u2, u3, u4, ob4, ob8, refFree, encArt, encSp, ss, sd, zH, qG, zF, zG, St.get, qE, qF, qB, zC, norm, look, zE, qA, qI, St.alloc, St.drop, zA, part, zB, depth, qD, ↓reduceIte, Nat.reduceBEq, Nat.reduceAdd, Nat.reduceSub, Nat.reduceMul, Nat.reduceEqDiff, Nat.reduceLeDiff, Nat.reduceLT, qJ, qK, qL, qM, qN, qO, qP, qQ, qR, zI, qS, qC, qT, evSlice0, qV, qW, qX, qY, qZ, zJ, zK, zL, wit, Option.isSome_some, qH, xJ, evPre, St.with, zD, Array.size, evLitX, evAppX, evCold, nameT, te, einl, inls, efr]
                  exact ⟨⟨c + 1, by omega, by omega⟩, rfl, by dsimp only; omega⟩
                · have u5 : encBits (expand xs).length (fun f => bitAt a.len pre' f || (decide (s.1 ≤ f) && decide (f < c))) = encBits (expand xs).length (bitAt a.len (pre' ++ [s])) := bits_congr _ fun i _ => by
                    rw [bitAt_snoc]
                    congr 1
                    by_cases h : s.1 ≤ (i : Int)
                    · have : decide ((i : Int) < c) = decide ((i : Int) + a.len ≤ s.2) := by rw [decide_eq_decide]; omega
                      rw [this]
                    · rw [decide_eq_false h, Bool.false_and, Bool.false_and]
                  simp (maxSteps := 1000000) (implicitDefEqProofs := false) only [w1, w2, hlt, u5, g4', ob4, ob8, refFree, encArt, encSp, ss, sd, zH, qG, zF, zG, St.get, qE, qF, qB, zC, norm, look, zE, qA, qI, St.alloc, St.drop, zA, part, zB, depth, qD, ↓reduceIte, Nat.reduceBEq, Nat.reduceAdd, Nat.reduceSub, Nat.reduceMul, Nat.reduceEqDiff, Nat.reduceLeDiff, Nat.reduceLT, qJ, qK, qL, qM, qN, qO, qP, qQ, qR, zI, qS, qC, qT, evSlice0, qV, qW, qX, qY, qZ, zJ, zK, zL, wit, Option.isSome_some, qH, xJ, evPre, St.with, zD, Array.size, evLitX, evAppX, evCold, nameT, te, einl, inls, efr]
                  exact ⟨(), trivial⟩
          | cons b out =>
            simp (maxSteps := 1000000) (implicitDefEqProofs := false) only [g1, g2, g3, g4, Int.natCast_nonneg, Int.toNat_natCast, List.getElem?_map, encArt, benchOb, ob4, ob8, refFree, ss, sd, zH, qG, zF, zG, St.get, qE, qF, qB, zC, norm, look, zE, qA, qI, St.alloc, St.drop, zA, part, zB, depth, qD, ↓reduceIte, Nat.reduceBEq, Nat.reduceAdd, Nat.reduceSub, Nat.reduceMul, Nat.reduceEqDiff, Nat.reduceLeDiff, Nat.reduceLT, qJ, qK, qL, qM, qN, qO, qP, qQ, qR, zI, qS, qC, qT, evSlice0, qV, qW, qX, qY, qZ, zJ, zK, zL, wit, Option.isSome_some, qH, xJ, evPre, St.with, zD, Array.size, evLitX, evAppX, evCold, nameT, te, einl, inls, efr]
            rw [evRegion_dyn]
            rotate_left
            · rfl
            simp (maxSteps := 1000000) (implicitDefEqProofs := false) only [w0, w5, w6, w7, z1, k3, hroom, ss, sd, zH, qG, zF, zG, St.get, qE, qF, qB, zC, norm, look, zE, qA, qI, St.alloc, St.drop, zA, part, zB, depth, qD, ↓reduceIte, Nat.reduceBEq, Nat.reduceAdd, Nat.reduceSub, Nat.reduceMul, Nat.reduceEqDiff, Nat.reduceLeDiff, Nat.reduceLT, qJ, qK, qL, qM, qN, qO, qP, qQ, qR, zI, qS, qC, qT, evSlice0, qV, qW, qX, qY, qZ, zJ, zK, zL, wit, Option.isSome_some, qH, xJ, evPre, St.with, zD, Array.size, evLitX, evAppX, evCold, nameT, te, einl, inls, efr]
            generalize hr : loopAt _ _ _ _ _ _ = r; revert r
            refine loop_list S (fun pre _ => [(63, .int .i64 pre.length)]) (fun pre' _ => [(4, ob4), (8, ob8 xs (.own 87 0 (out.length + 1))), (10, { es := 6, flat := true, t := true, app := false, elems := [encArt a] }),
              (11, { es := 8, flat := false, t := true, app := false, elems := [.agg [.int .i64 a.len, .int .i64 a.q.least, .int .i64 a.q.most, .int .i64 a.q.shade, .int .i64 a.q.flaws, .int .i64 a.price, .int .i64 pre.length, .own 52 0 ((expand xs).length + 1)]] }),
              (52, { es := 1, flat := true, t := true, app := true, elems := encBits (expand xs).length (bitAt a.len pre') }), (87, { es := 8, flat := true, t := true, app := true, elems := b :: out })]) (fun _ (_ : Unit) => True) () (by omega) (by simp (maxSteps := 1000000) (implicitDefEqProofs := false) only [ob4, ob8, refFree, encArt, ss, sd, zH, qG, zF, zG, St.get, qE, qF, qB, zC, norm, look, zE, qA, qI, St.alloc, St.drop, zA, part, zB, depth, qD, ↓reduceIte, Nat.reduceBEq, Nat.reduceAdd, Nat.reduceSub, Nat.reduceMul, Nat.reduceEqDiff, Nat.reduceLeDiff, Nat.reduceLT, qJ, qK, qL, qM, qN, qO, qP, qQ, qR, zI, qS, qC, qT, evSlice0, qV, qW, qX, qY, qZ, zJ, zK, zL, wit, Option.isSome_some, qH, xJ, evPre, St.with, zD, Array.size, evLitX, evAppX, evCold, nameT, te, einl, inls, efr]) trivial (fun _ _ => ?_) (fun pre' s post' _ hp' _ g1' g2' g3' g4' => ?_)
            · have z2 : encBits (expand xs).length (bitAt a.len S) = encBits (expand xs).length (fitA (expand xs) a) := bits_congr _ fun i _ => hfit i
              have z3 : (encBits (expand xs).length (fitA (expand xs) a)).take ((expand xs).length + 1) = encBits (expand xs).length (fitA (expand xs) a) := List.take_of_length_le (by rw [bits_len]; omega)
              have z4 := bits_len (expand xs).length (fitA (expand xs) a)
              have hr1 : roomy (out.length + 1 + 1) 80 = true := by simp [roomy]; simp at lo; omega
              have hr2 : out.length + 1 + 1 ≤ 4294967296 := by simp at lo; omega
              simp (maxSteps := 1000000) (implicitDefEqProofs := false) only [hr1, hr2, Int.lt_irrefl, g4, z2, z3, z4, ob4, ob8, refFree, encArt, encOffer, Nat.zero_add, Nat.le_refl, List.drop_zero, ss, sd, zH, qG, zF, zG, St.get, qE, qF, qB, zC, norm, look, zE, qA, qI, St.alloc, St.drop, zA, part, zB, depth, qD, ↓reduceIte, Nat.reduceBEq, Nat.reduceAdd, Nat.reduceSub, Nat.reduceMul, Nat.reduceEqDiff, Nat.reduceLeDiff, Nat.reduceLT, qJ, qK, qL, qM, qN, qO, qP, qQ, qR, zI, qS, qC, qT, evSlice0, qV, qW, qX, qY, qZ, zJ, zK, zL, wit, Option.isSome_some, qH, xJ, evPre, St.with, zD, Array.size, evLitX, evAppX, evCold, nameT, te, einl, inls, efr]
              refine ⟨(), ?_⟩
              simp only [List.length_append, List.length_cons, List.length_nil]
            · have h0 := hS s (by rw [hp']; simp)
              have gS : S.length ≤ 1000 := by omega
              simp (maxSteps := 1000000) (implicitDefEqProofs := false) only [g1', g2', g3', g4', Int.natCast_nonneg, Int.toNat_natCast, List.getElem?_map, encSp, ob4, ob8, refFree, encArt, ss, sd, zH, qG, zF, zG, St.get, qE, qF, qB, zC, norm, look, zE, qA, qI, St.alloc, St.drop, zA, part, zB, depth, qD, ↓reduceIte, Nat.reduceBEq, Nat.reduceAdd, Nat.reduceSub, Nat.reduceMul, Nat.reduceEqDiff, Nat.reduceLeDiff, Nat.reduceLT, qJ, qK, qL, qM, qN, qO, qP, qQ, qR, zI, qS, qC, qT, evSlice0, qV, qW, qX, qY, qZ, zJ, zK, zL, wit, Option.isSome_some, qH, xJ, evPre, St.with, zD, Array.size, evLitX, evAppX, evCold, nameT, te, einl, inls, efr]
              generalize hr : loopAt _ _ _ _ _ _ = r; revert r
              refine loop_inv (ι := { c : Int // s.1 ≤ c ∧ (c ≤ s.1 ∨ c + a.len ≤ s.2 + 1) }) (fun c => [(16, .int .i64 c.1)]) (fun c => [(4, ob4), (8, ob8 xs (.own 87 0 (out.length + 1))), (10, { es := 6, flat := true, t := true, app := false, elems := [encArt a] }),
                  (11, { es := 8, flat := false, t := true, app := false, elems := [.agg [.int .i64 a.len, .int .i64 a.q.least, .int .i64 a.q.most, .int .i64 a.q.shade, .int .i64 a.q.flaws, .int .i64 a.price, .int .i64 pre.length, .own 52 0 ((expand xs).length + 1)]] }),
                  (15, { es := 2, flat := true, t := true, app := false, elems := [encSp s] }),
                  (52, { es := 1, flat := true, t := true, app := true, elems := encBits (expand xs).length (fun f => bitAt a.len pre' f || (decide (s.1 ≤ f) && decide (f < c.1))) }), (87, { es := 8, flat := true, t := true, app := true, elems := b :: out })]) (fun c => (s.2 + 1 - c.1).toNat) ⟨s.1, by omega, by omega⟩ ?_ ?_
              · dsimp only
                rw [show encBits (expand xs).length (fun f => bitAt a.len pre' f || (decide (s.1 ≤ f) && decide (f < s.1))) = encBits (expand xs).length (bitAt a.len pre') from bits_congr _ fun i _ => by
                  have : (decide (s.1 ≤ (i : Int)) && decide ((i : Int) < s.1)) = false := by rw [Bool.and_eq_false_iff, decide_eq_false_iff_not, decide_eq_false_iff_not]; omega
                  rw [this, Bool.or_false]]
                simp (maxSteps := 1000000) (implicitDefEqProofs := false) only [ob4, ob8, refFree, encArt, encSp, ss, sd, zH, qG, zF, zG, St.get, qE, qF, qB, zC, norm, look, zE, qA, qI, St.alloc, St.drop, zA, part, zB, depth, qD, ↓reduceIte, Nat.reduceBEq, Nat.reduceAdd, Nat.reduceSub, Nat.reduceMul, Nat.reduceEqDiff, Nat.reduceLeDiff, Nat.reduceLT, qJ, qK, qL, qM, qN, qO, qP, qQ, qR, zI, qS, qC, qT, evSlice0, qV, qW, qX, qY, qZ, zJ, zK, zL, wit, Option.isSome_some, qH, xJ, evPre, St.with, zD, Array.size, evLitX, evAppX, evCold, nameT, te, einl, inls, efr]
              · rintro ⟨c, hc1, hc2⟩
                dsimp only
                have w1 : IntKind.i64.wrap (c + a.len) = c + a.len := wrap_in (by omega)
                have w2 : IntKind.i64.wrap (c + 1) = c + 1 := wrap_in (by omega)
                by_cases hlt : c + a.len ≤ s.2
                · have u1 : (0 ≤ c) = True := by simp; omega
                  have u2 : (c < (((expand xs).length + 1 : Nat) : Int)) = True := by simp; omega
                  have u3 := bits_get (expand xs).length (fun f => bitAt a.len pre' f || (decide (s.1 ≤ f) && decide (f < c))) (f := c.toNat) (by omega)
                  have u4 := bits_set (expand xs).length (fun f => bitAt a.len pre' f || (decide (s.1 ≤ f) && decide (f < c))) (f := c.toNat) (by omega) (fun f => bitAt a.len pre' f || (decide (s.1 ≤ f) && decide (f < c + 1)))
                    (by simp; right; omega) (fun i hi => by
                      have : decide ((i : Int) < c + 1) = decide ((i : Int) < c) := by rw [decide_eq_decide]; omega
                      rw [this])
                  simp (maxSteps := 1000000) (implicitDefEqProofs := false) only [w1, w2, hlt, u1, u2, u3, u4, ob4, ob8, refFree, encArt, encSp, ss, sd, zH, qG, zF, zG, St.get, qE, qF, qB, zC, norm, look, zE, qA, qI, St.alloc, St.drop, zA, part, zB, depth, qD, ↓reduceIte, Nat.reduceBEq, Nat.reduceAdd, Nat.reduceSub, Nat.reduceMul, Nat.reduceEqDiff, Nat.reduceLeDiff, Nat.reduceLT, qJ, qK, qL, qM, qN, qO, qP, qQ, qR, zI, qS, qC, qT, evSlice0, qV, qW, qX, qY, qZ, zJ, zK, zL, wit, Option.isSome_some, qH, xJ, evPre, St.with, zD, Array.size, evLitX, evAppX, evCold, nameT, te, einl, inls, efr]
                  exact ⟨⟨c + 1, by omega, by omega⟩, rfl, by dsimp only; omega⟩
                · have u5 : encBits (expand xs).length (fun f => bitAt a.len pre' f || (decide (s.1 ≤ f) && decide (f < c))) = encBits (expand xs).length (bitAt a.len (pre' ++ [s])) := bits_congr _ fun i _ => by
                    rw [bitAt_snoc]
                    congr 1
                    by_cases h : s.1 ≤ (i : Int)
                    · have : decide ((i : Int) < c) = decide ((i : Int) + a.len ≤ s.2) := by rw [decide_eq_decide]; omega
                      rw [this]
                    · rw [decide_eq_false h, Bool.false_and, Bool.false_and]
                  simp (maxSteps := 1000000) (implicitDefEqProofs := false) only [w1, w2, hlt, u5, g4', ob4, ob8, refFree, encArt, encSp, ss, sd, zH, qG, zF, zG, St.get, qE, qF, qB, zC, norm, look, zE, qA, qI, St.alloc, St.drop, zA, part, zB, depth, qD, ↓reduceIte, Nat.reduceBEq, Nat.reduceAdd, Nat.reduceSub, Nat.reduceMul, Nat.reduceEqDiff, Nat.reduceLeDiff, Nat.reduceLT, qJ, qK, qL, qM, qN, qO, qP, qQ, qR, zI, qS, qC, qT, evSlice0, qV, qW, qX, qY, qZ, zJ, zK, zL, wit, Option.isSome_some, qH, xJ, evPre, St.with, zD, Array.size, evLitX, evAppX, evCold, nameT, te, einl, inls, efr]
                  exact ⟨(), trivial⟩
      · unfold layV
        rw [if_neg (by rw [he]; exact ha), he]
        have ha' : (validA l != 0) = true := by simpa using ha
        simp (maxSteps := 1000000) (implicitDefEqProofs := false) only [Try.ntmps50, Try.results50, efc50, fc50, k1, k2, ht, ha', bne_self_eq_false, bench0, List.map_nil, ss, sd, zH, qG, zF, zG, St.get, qE, qF, qB, zC, norm, look, zE, qA, qI, St.alloc, St.drop, zA, part, zB, depth, qD, ↓reduceIte, Nat.reduceBEq, Nat.reduceAdd, Nat.reduceSub, Nat.reduceMul, Nat.reduceEqDiff, Nat.reduceLeDiff, Nat.reduceLT, qJ, qK, qL, qM, qN, qO, qP, qQ, qR, zI, qS, qC, qT, evSlice0, qV, qW, qX, qY, qZ, zJ, zK, zL, wit, Option.isSome_some, qH, xJ, evPre, St.with, zD, Array.size, evLitX, evAppX, evCold, nameT, te, einl, inls, efr]
  · have he : errM xs l = validate xs := by unfold errM; rw [if_neg hv]
    unfold layV
    rw [if_neg (by rw [he]; exact hv), he]
    have hv' : (validate xs != 0) = true := by simpa using hv
    unfold lengthM at k1
    rw [if_neg hv] at k1
    simp only [encLen] at k1
    simp (maxSteps := 1000000) (implicitDefEqProofs := false) only [Try.ntmps50, Try.results50, efc50, fc50, k1, hv', bench0, List.map_nil, ss, sd, zH, qG, zF, zG, St.get, qE, qF, qB, zC, norm, look, zE, qA, qI, St.alloc, St.drop, zA, part, zB, depth, qD, ↓reduceIte, Nat.reduceBEq, Nat.reduceAdd, Nat.reduceSub, Nat.reduceMul, Nat.reduceEqDiff, Nat.reduceLeDiff, Nat.reduceLT, qJ, qK, qL, qM, qN, qO, qP, qQ, qR, zI, qS, qC, qT, evSlice0, qV, qW, qX, qY, qZ, zJ, zK, zL, wit, Option.isSome_some, qH, xJ, evPre, St.with, zD, Array.size, evLitX, evAppX, evCold, nameT, te, einl, inls, efr]

end Go.AM.C
end

section
namespace Go.AM.C
open Go Go.Proofs

def benchA (xs : List Run) (l : List Art) : V := .agg [.sl false (xs.map encRun), .int .i64 ((expand xs).length : Nat), .sl false (offs (expand xs) 0 l)]

theorem benchV_eq {xs : List Run} {l : List Art} (h : errM xs l = 0) : layV xs l = .tup [.agg [.sl false (xs.map encRun), .int .i64 ((expand xs).length : Nat), .sl true (offs (expand xs) 0 l)], .int .i64 0] := by
  unfold layV benchV
  rw [if_pos h, expand_len (valid_okay (errM_zero h).1).1]

theorem fitsM_some {ms : List Mk} {l : List Art} {x k : Int} {a : Art} (h : 0 ≤ k) (h1 : l[k.toNat]? = some a) : fitsM ms l x k = fitA ms a x := by
  unfold fitsM; rw [if_pos h, h1]
theorem fitsM_none {ms : List Mk} {l : List Art} {x k : Int} (h : ¬ (0 ≤ k ∧ k < (l.length : Int))) : fitsM ms l x k = false := by
  unfold fitsM
  split
  · rw [List.getElem?_eq_none (by omega)]
  · rfl

theorem okT51 : okCode (Try.f51.body.getD .skip) = true := by decide +kernel

set_option maxHeartbeats 4000000 in
theorem c51 (xs : List Run) (l : List Art) (x k : Int) (hl : ∀ a ∈ l, 1 ≤ a.len) : (orcω E X0).call 51 [benchA xs l, .agg [.int .i64 x, .int .i64 k]] = some (.bool (fitsM (expand xs) l x k)) := by
  refine call_of rfl fn51 rfl ?_
  have hok := okT51
  simp only [Try.f51, Option.getD_some, okCode, Bool.and_eq_true, Bool.and_true, Bool.true_and] at hok
  unfold benchA
  by_cases a1 : 0 ≤ k
  · by_cases a2 : k < (l.length : Int)
    · have g0 : k.toNat < l.length := by omega
      have g1 : l[k.toNat]? = some l[k.toNat] := List.getElem?_eq_getElem g0
      have g2 := hl l[k.toNat] (List.getElem_mem g0)
      generalize l[k.toNat] = a at *
      rw [fitsM_some a1 g1]
      have g3 := offs_get (expand xs) l 0 k.toNat
      rw [g1, Option.map_some, Nat.zero_add] at g3
      have g4 := offs_len (expand xs) l 0
      by_cases a3 : 0 ≤ x
      · by_cases a4 : x ≤ ((expand xs).length : Int)
        · have g5 := bits_get (expand xs).length (fitA (expand xs) a) (f := x.toNat) (by omega)
          rw [Int.toNat_of_nonneg a3] at g5
          have g6 := bits_len (expand xs).length (fitA (expand xs) a)
          have g7 : x < (((expand xs).length + 1 : Nat) : Int) := by omega
          simp (maxSteps := 1000000) (implicitDefEqProofs := false) only [Try.ntmps51, Try.results51, efc51, a1, a2, a3, a4, g3, g4, g5, g6, g7, encOffer, evRegion_st hok, ss, sd, zH, qG, zF, zG, St.get, qE, qF, qB, zC, norm, look, zE, qA, qI, St.alloc, St.drop, zA, part, zB, depth, qD, ↓reduceIte, Nat.reduceBEq, Nat.reduceAdd, Nat.reduceSub, Nat.reduceMul, Nat.reduceEqDiff, Nat.reduceLeDiff, Nat.reduceLT, qJ, qK, qL, qM, qN, qO, qP, qQ, qR, zI, qS, qC, qT, evSlice0, qV, qW, qX, qY, qZ, zJ, zK, zL, wit, Option.isSome_some, qH, xJ, evPre, St.with, zD, Array.size, evLitX, evAppX, evCold, nameT, te, einl, inls, efr]
        · have : fitA (expand xs) a x = false := by unfold fitA; rw [decide_eq_false (show ¬ x ≤ ((expand xs).length : Int) - a.len by omega)]; simp
          rw [this]
          simp (maxSteps := 1000000) (implicitDefEqProofs := false) only [Try.ntmps51, Try.results51, efc51, a1, a2, a3, a4, g3, g4, encOffer, evRegion_st hok, ss, sd, zH, qG, zF, zG, St.get, qE, qF, qB, zC, norm, look, zE, qA, qI, St.alloc, St.drop, zA, part, zB, depth, qD, ↓reduceIte, Nat.reduceBEq, Nat.reduceAdd, Nat.reduceSub, Nat.reduceMul, Nat.reduceEqDiff, Nat.reduceLeDiff, Nat.reduceLT, qJ, qK, qL, qM, qN, qO, qP, qQ, qR, zI, qS, qC, qT, evSlice0, qV, qW, qX, qY, qZ, zJ, zK, zL, wit, Option.isSome_some, qH, xJ, evPre, St.with, zD, Array.size, evLitX, evAppX, evCold, nameT, te, einl, inls, efr]
      · have : fitA (expand xs) a x = false := by unfold fitA; rw [decide_eq_false a3]; simp
        rw [this]
        simp (maxSteps := 1000000) (implicitDefEqProofs := false) only [Try.ntmps51, Try.results51, efc51, a1, a2, a3, g3, g4, encOffer, evRegion_st hok, ss, sd, zH, qG, zF, zG, St.get, qE, qF, qB, zC, norm, look, zE, qA, qI, St.alloc, St.drop, zA, part, zB, depth, qD, ↓reduceIte, Nat.reduceBEq, Nat.reduceAdd, Nat.reduceSub, Nat.reduceMul, Nat.reduceEqDiff, Nat.reduceLeDiff, Nat.reduceLT, qJ, qK, qL, qM, qN, qO, qP, qQ, qR, zI, qS, qC, qT, evSlice0, qV, qW, qX, qY, qZ, zJ, zK, zL, wit, Option.isSome_some, qH, xJ, evPre, St.with, zD, Array.size, evLitX, evAppX, evCold, nameT, te, einl, inls, efr]
    · rw [fitsM_none (fun h => a2 h.2)]
      have g4 := offs_len (expand xs) l 0
      simp (maxSteps := 1000000) (implicitDefEqProofs := false) only [Try.ntmps51, Try.results51, efc51, a1, a2, g4, evRegion_st hok, ss, sd, zH, qG, zF, zG, St.get, qE, qF, qB, zC, norm, look, zE, qA, qI, St.alloc, St.drop, zA, part, zB, depth, qD, ↓reduceIte, Nat.reduceBEq, Nat.reduceAdd, Nat.reduceSub, Nat.reduceMul, Nat.reduceEqDiff, Nat.reduceLeDiff, Nat.reduceLT, qJ, qK, qL, qM, qN, qO, qP, qQ, qR, zI, qS, qC, qT, evSlice0, qV, qW, qX, qY, qZ, zJ, zK, zL, wit, Option.isSome_some, qH, xJ, evPre, St.with, zD, Array.size, evLitX, evAppX, evCold, nameT, te, einl, inls, efr]
  · rw [fitsM_none (fun h => a1 h.1)]
    simp (maxSteps := 1000000) (implicitDefEqProofs := false) only [Try.ntmps51, Try.results51, efc51, a1, evRegion_st hok, ss, sd, zH, qG, zF, zG, St.get, qE, qF, qB, zC, norm, look, zE, qA, qI, St.alloc, St.drop, zA, part, zB, depth, qD, ↓reduceIte, Nat.reduceBEq, Nat.reduceAdd, Nat.reduceSub, Nat.reduceMul, Nat.reduceEqDiff, Nat.reduceLeDiff, Nat.reduceLT, qJ, qK, qL, qM, qN, qO, qP, qQ, qR, zI, qS, qC, qT, evSlice0, qV, qW, qX, qY, qZ, zJ, zK, zL, wit, Option.isSome_some, qH, xJ, evPre, St.with, zD, Array.size, evLitX, evAppX, evCold, nameT, te, einl, inls, efr]

def encBE (x : Bool × Int) : V := .tup [.bool x.1, .int .i64 x.2]
def fitR (xs : List Run) (l : List Art) (x k : Int) : Bool × Int := if errM xs l = 0 then (fitsM (expand xs) l x k, 0) else (false, errM xs l)

theorem c18 (xs : List Run) (l : List Art) (x k : Int) (hx : xs.length ≤ 100000) (hl : l.length ≤ 100000) :
    (orcω E X0).call 18 [.sl false (xs.map encRun), .sl false (l.map encArt), .agg [.int .i64 x, .int .i64 k]] = some (encBE (fitR xs l x k)) := by
  refine call_of rfl fn18 rfl ?_
  have k1 := c50 xs l hx hl
  unfold fitR
  by_cases he : errM xs l = 0
  · have k2 := c51 xs l x k (fun a ha => ((validA_len (errM_zero he).2.2).2 a ha).1.1)
    rw [benchV_eq he] at k1
    rw [if_pos he]
    unfold benchA at k2
    simp (maxSteps := 1000000) (implicitDefEqProofs := false) only [Try.ntmps18, Try.results18, efc18, k1, k2, encBE, beq_self_eq_true, ss, sd, zH, qG, zF, zG, St.get, qE, qF, qB, zC, norm, look, zE, qA, qI, St.alloc, St.drop, zA, part, zB, depth, qD, ↓reduceIte, Nat.reduceBEq, Nat.reduceAdd, Nat.reduceSub, Nat.reduceMul, Nat.reduceEqDiff, Nat.reduceLeDiff, Nat.reduceLT, qJ, qK, qL, qM, qN, qO, qP, qQ, qR, zI, qS, qC, qT, evSlice0, qV, qW, qX, qY, qZ, zJ, zK, zL, wit, Option.isSome_some, qH, xJ, evPre, St.with, zD, Array.size, evLitX, evAppX, evCold, nameT, te, einl, inls, efr]
  · unfold layV at k1
    rw [if_neg he] at k1 ⊢
    have he' : (errM xs l == 0) = false := by simpa using he
    simp (maxSteps := 1000000) (implicitDefEqProofs := false) only [Try.ntmps18, Try.results18, efc18, k1, bench0, encBE, he', ss, sd, zH, qG, zF, zG, St.get, qE, qF, qB, zC, norm, look, zE, qA, qI, St.alloc, St.drop, zA, part, zB, depth, qD, ↓reduceIte, Nat.reduceBEq, Nat.reduceAdd, Nat.reduceSub, Nat.reduceMul, Nat.reduceEqDiff, Nat.reduceLeDiff, Nat.reduceLT, qJ, qK, qL, qM, qN, qO, qP, qQ, qR, zI, qS, qC, qT, evSlice0, qV, qW, qX, qY, qZ, zJ, zK, zL, wit, Option.isSome_some, qH, xJ, evPre, St.with, zD, Array.size, evLitX, evAppX, evCold, nameT, te, einl, inls, efr]

theorem c19 (xs : List Run) (l : List Art) (x k : Int) (hx : xs.length ≤ 100000) (hl : l.length ≤ 100000) :
    (orcω E X0).call 19 [.sl false (xs.map encRun), .sl false (l.map encArt), .agg [.int .i64 x, .int .i64 k]] = some (encBE (fitR xs l x k)) := by
  refine call_of rfl fn19 rfl ?_
  have k1 := c52 xs l hx hl
  unfold fitR
  unfold marksM at k1
  by_cases he : errM xs l = 0
  · have h9 := expand_len (valid_okay (errM_zero he).1).1
    have h8 := (errM_zero he).2.1
    have k2 := c53 (expand xs) l x k (by omega) (errM_zero he).2.2
    rw [if_pos he] at k1 ⊢
    simp only [encMks] at k1
    simp (maxSteps := 1000000) (implicitDefEqProofs := false) only [Try.ntmps19, Try.results19, efc19, k1, k2, encBE, bne_self_eq_false, ss, sd, zH, qG, zF, zG, St.get, qE, qF, qB, zC, norm, look, zE, qA, qI, St.alloc, St.drop, zA, part, zB, depth, qD, ↓reduceIte, Nat.reduceBEq, Nat.reduceAdd, Nat.reduceSub, Nat.reduceMul, Nat.reduceEqDiff, Nat.reduceLeDiff, Nat.reduceLT, qJ, qK, qL, qM, qN, qO, qP, qQ, qR, zI, qS, qC, qT, evSlice0, qV, qW, qX, qY, qZ, zJ, zK, zL, wit, Option.isSome_some, qH, xJ, evPre, St.with, zD, Array.size, evLitX, evAppX, evCold, nameT, te, einl, inls, efr]
  · rw [if_neg he] at k1 ⊢
    simp only [encMks] at k1
    have he' : (errM xs l != 0) = true := by simpa using he
    simp (maxSteps := 1000000) (implicitDefEqProofs := false) only [Try.ntmps19, Try.results19, efc19, k1, encBE, he', ss, sd, zH, qG, zF, zG, St.get, qE, qF, qB, zC, norm, look, zE, qA, qI, St.alloc, St.drop, zA, part, zB, depth, qD, ↓reduceIte, Nat.reduceBEq, Nat.reduceAdd, Nat.reduceSub, Nat.reduceMul, Nat.reduceEqDiff, Nat.reduceLeDiff, Nat.reduceLT, qJ, qK, qL, qM, qN, qO, qP, qQ, qR, zI, qS, qC, qT, evSlice0, qV, qW, qX, qY, qZ, zJ, zK, zL, wit, Option.isSome_some, qH, xJ, evPre, St.with, zD, Array.size, evLitX, evAppX, evCold, nameT, te, einl, inls, efr]

theorem c3 (xs : List Run) (l : List Art) (x k : Int) : (orcω E X0).call 3 [.sl false (xs.map encRun), .sl false (l.map encArt), .agg [.int .i64 x, .int .i64 k]] = some (.bool true) := by
  refine call_of rfl fn3 rfl ?_
  have k1 := c16 xs l false []
  cases hlong : long xs l 0 with
  | true =>
    rw [List.length_nil, hlong] at k1
    simp (maxSteps := 1000000) (implicitDefEqProofs := false) only [Try.ntmps3, Try.results3, efc3, k1, c17, ss, sd, zH, qG, zF, zG, St.get, qE, qF, qB, zC, norm, look, zE, qA, qI, St.alloc, St.drop, zA, part, zB, depth, qD, ↓reduceIte, Nat.reduceBEq, Nat.reduceAdd, Nat.reduceSub, Nat.reduceMul, Nat.reduceEqDiff, Nat.reduceLeDiff, Nat.reduceLT, qJ, qK, qL, qM, qN, qO, qP, qQ, qR, zI, qS, qC, qT, evSlice0, qV, qW, qX, qY, qZ, zJ, zK, zL, wit, Option.isSome_some, qH, xJ, evPre, St.with, zD, Array.size, evLitX, evAppX, evCold, nameT, te, einl, inls, efr]
  | false =>
    rw [List.length_nil, hlong] at k1
    unfold long at hlong
    simp only [Bool.or_eq_false_iff, decide_eq_false_iff_not] at hlong
    have k2 := c18 xs l x k (by omega) (by omega)
    have k3 := c19 xs l x k (by omega) (by omega)
    have k4 := c20 l (by omega)
    have k5 := c21 l (by omega)
    generalize fitR xs l x k = R at *
    obtain ⟨b, e⟩ := R
    simp only [encBE] at k2 k3
    have hb : (b == b) = true := by simp
    simp (maxSteps := 1000000) (implicitDefEqProofs := false) only [Try.ntmps3, Try.results3, efc3, k1, k2, k3, k4, k5, c17, hb, beq_self_eq_true, ss, sd, zH, qG, zF, zG, St.get, qE, qF, qB, zC, norm, look, zE, qA, qI, St.alloc, St.drop, zA, part, zB, depth, qD, ↓reduceIte, Nat.reduceBEq, Nat.reduceAdd, Nat.reduceSub, Nat.reduceMul, Nat.reduceEqDiff, Nat.reduceLeDiff, Nat.reduceLT, qJ, qK, qL, qM, qN, qO, qP, qQ, qR, zI, qS, qC, qT, evSlice0, qV, qW, qX, qY, qZ, zJ, zK, zL, wit, Option.isSome_some, qH, xJ, evPre, St.with, zD, Array.size, evLitX, evAppX, evCold, nameT, te, einl, inls, efr]

end Go.AM.C
end

