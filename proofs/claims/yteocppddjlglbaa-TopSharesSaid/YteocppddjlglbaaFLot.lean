/-
Lots: their sums and their errors, as the program finds them.
-/
import Derived.Test.YteocppddjlglbaaFBase
import Derived.Test.YteocppddjlglbaaFLotP
set_option linter.unusedVariables false
set_option linter.unusedSimpArgs false
set_option maxRecDepth 20000

namespace Go.AM.F
open Go Go.AM Go.Proofs

def encPart (p : Part) : V := .agg [.int .i64 p.lot, .int .i64 p.mass]
def encLot (x : Lot) : V := .agg [.int .i64 x.kind, .int .i64 x.mass, .sl false (x.parts.map encPart)]
def encLots (l : List Lot) : V := .sl false (l.map encLot)

set_option maxHeartbeats 4000000 in
theorem c39 (x : Lot) (h : PartsOk x.parts) : (orcω E X0).call 39 [encLot x] = some (.int .i64 (sumP x.parts)) := by
  obtain ⟨k, m, ps⟩ := x
  obtain ⟨h1, h2⟩ := h
  dsimp only at h1 h2 ⊢
  refine call_of rfl fn39 rfl ?_
  simp (maxSteps := 1000000) (implicitDefEqProofs := false) only [encLot, Try.ntmps39, Try.results39, efc39, fc39, ss, sd, zH, qG, zF, zG, St.get, qE, qF, qB, zC, norm, look, zE, qA, qI, St.alloc, St.drop, zA, part, zB, depth, qD, ↓reduceIte, Nat.reduceBEq, Nat.reduceAdd, Nat.reduceSub, Nat.reduceMul, Nat.reduceEqDiff, Nat.reduceLeDiff, Nat.reduceLT, qJ, qK, qL, qM, qN, qO, qP, qQ, qR, zI, qS, qC, qT, evSlice0, qV, qW, qX, qY, qZ, zJ, zK, zL, wit, Option.isSome_some, qH, xK, evPre, St.with, zD, Array.size, toldV, isIntV, orArr, offB, effFr, effFr2, effFr3, mapIn, restSame, sameO, eqW, eqWL, pickR, te, einl, inls, efr]
  generalize hr : loopAt _ _ _ _ _ _ = r; revert r
  refine loop_list ps (fun pre _ => [(3, .int .i64 (sumP pre)), (9, .int .i64 pre.length)]) (fun _ _ => []) (fun _ (_ : Unit) => True) () (by omega) (by simp (maxSteps := 1000000) (implicitDefEqProofs := false) only [sumP, ss, sd, zH, qG, zF, zG, St.get, qE, qF, qB, zC, norm, look, zE, qA, qI, St.alloc, St.drop, zA, part, zB, depth, qD, ↓reduceIte, Nat.reduceBEq, Nat.reduceAdd, Nat.reduceSub, Nat.reduceMul, Nat.reduceEqDiff, Nat.reduceLeDiff, Nat.reduceLT, qJ, qK, qL, qM, qN, qO, qP, qQ, qR, zI, qS, qC, qT, evSlice0, qV, qW, qX, qY, qZ, zJ, zK, zL, wit, Option.isSome_some, qH, xK, evPre, St.with, zD, Array.size, toldV, isIntV, orArr, offB, effFr, effFr2, effFr3, mapIn, restSame, sameO, eqW, eqWL, pickR, te, einl, inls, efr]) trivial (fun _ _ => ?_) (fun pre p post _ hp _ g1 g2 g3 g4 => ?_)
  · simp (maxSteps := 1000000) (implicitDefEqProofs := false) only [Int.lt_irrefl, List.length_map, Try.ntmps39, Try.results39, efc39, fc39, ss, sd, zH, qG, zF, zG, St.get, qE, qF, qB, zC, norm, look, zE, qA, qI, St.alloc, St.drop, zA, part, zB, depth, qD, ↓reduceIte, Nat.reduceBEq, Nat.reduceAdd, Nat.reduceSub, Nat.reduceMul, Nat.reduceEqDiff, Nat.reduceLeDiff, Nat.reduceLT, qJ, qK, qL, qM, qN, qO, qP, qQ, qR, zI, qS, qC, qT, evSlice0, qV, qW, qX, qY, qZ, zJ, zK, zL, wit, Option.isSome_some, qH, xK, evPre, St.with, zD, Array.size, toldV, isIntV, orArr, offB, effFr, effFr2, effFr3, mapIn, restSame, sameO, eqW, eqWL, pickR, te, einl, inls, efr]
  · have hall : ∀ q ∈ pre ++ [p], 1 ≤ q.mass ∧ q.mass ≤ 100000 := fun q hq => h2 q (by rw [hp]; simp at hq ⊢; rcases hq with h | h <;> simp [h])
    have b1 := sumP_le (pre ++ [p]) hall
    have b2 := congrArg List.length hp
    simp only [List.length_append, List.length_cons, List.length_nil] at b1 b2
    have e1 : sumP pre + p.mass = sumP (pre ++ [p]) := by rw [sumP_app]; simp [sumP]
    have w1 : IntKind.i64.wrap (sumP pre + p.mass) = sumP (pre ++ [p]) := by rw [e1, wrap_in (by omega)]
    simp (maxSteps := 1000000) (implicitDefEqProofs := false) only [g1, g2, g3, g4, w1, encPart, Int.natCast_nonneg, Int.toNat_natCast, List.getElem?_map, List.length_map, ss, sd, zH, qG, zF, zG, St.get, qE, qF, qB, zC, norm, look, zE, qA, qI, St.alloc, St.drop, zA, part, zB, depth, qD, ↓reduceIte, Nat.reduceBEq, Nat.reduceAdd, Nat.reduceSub, Nat.reduceMul, Nat.reduceEqDiff, Nat.reduceLeDiff, Nat.reduceLT, qJ, qK, qL, qM, qN, qO, qP, qQ, qR, zI, qS, qC, qT, evSlice0, qV, qW, qX, qY, qZ, zJ, zK, zL, wit, Option.isSome_some, qH, xK, evPre, St.with, zD, Array.size, toldV, isIntV, orArr, offB, effFr, effFr2, effFr3, mapIn, restSame, sameO, eqW, eqWL, pickR, te, einl, inls, efr]
    (first | exact ⟨(), trivial⟩ | refine ⟨(), ?_, trivial⟩ | skip)

set_option maxHeartbeats 4000000 in
theorem c24 (x : Lot) (h : PartsOk x.parts) : (orcω E X0).call 24 [encLot x] = some (.int .i64 (sumP x.parts)) := by
  obtain ⟨k, m, ps⟩ := x
  obtain ⟨h1, h2⟩ := h
  dsimp only at h1 h2 ⊢
  refine call_of rfl fn24 rfl ?_
  simp (maxSteps := 1000000) (implicitDefEqProofs := false) only [encLot, Try.ntmps24, Try.results24, efc24, fc24, ss, sd, zH, qG, zF, zG, St.get, qE, qF, qB, zC, norm, look, zE, qA, qI, St.alloc, St.drop, zA, part, zB, depth, qD, ↓reduceIte, Nat.reduceBEq, Nat.reduceAdd, Nat.reduceSub, Nat.reduceMul, Nat.reduceEqDiff, Nat.reduceLeDiff, Nat.reduceLT, qJ, qK, qL, qM, qN, qO, qP, qQ, qR, zI, qS, qC, qT, evSlice0, qV, qW, qX, qY, qZ, zJ, zK, zL, wit, Option.isSome_some, qH, xK, evPre, St.with, zD, Array.size, toldV, isIntV, orArr, offB, effFr, effFr2, effFr3, mapIn, restSame, sameO, eqW, eqWL, pickR, te, einl, inls, efr]
  generalize hr : loopAt _ _ _ _ _ _ = r; revert r
  refine loop_list ps (fun pre _ => [(3, .int .i64 (sumP pre)), (4, .int .i64 pre.length)]) (fun _ _ => []) (fun _ (_ : Unit) => True) () (by omega) (by simp (maxSteps := 1000000) (implicitDefEqProofs := false) only [sumP, ss, sd, zH, qG, zF, zG, St.get, qE, qF, qB, zC, norm, look, zE, qA, qI, St.alloc, St.drop, zA, part, zB, depth, qD, ↓reduceIte, Nat.reduceBEq, Nat.reduceAdd, Nat.reduceSub, Nat.reduceMul, Nat.reduceEqDiff, Nat.reduceLeDiff, Nat.reduceLT, qJ, qK, qL, qM, qN, qO, qP, qQ, qR, zI, qS, qC, qT, evSlice0, qV, qW, qX, qY, qZ, zJ, zK, zL, wit, Option.isSome_some, qH, xK, evPre, St.with, zD, Array.size, toldV, isIntV, orArr, offB, effFr, effFr2, effFr3, mapIn, restSame, sameO, eqW, eqWL, pickR, te, einl, inls, efr]) trivial (fun _ _ => ?_) (fun pre p post _ hp _ g1 g2 g3 g4 => ?_)
  · simp (maxSteps := 1000000) (implicitDefEqProofs := false) only [Int.lt_irrefl, List.length_map, Try.ntmps24, Try.results24, efc24, fc24, ss, sd, zH, qG, zF, zG, St.get, qE, qF, qB, zC, norm, look, zE, qA, qI, St.alloc, St.drop, zA, part, zB, depth, qD, ↓reduceIte, Nat.reduceBEq, Nat.reduceAdd, Nat.reduceSub, Nat.reduceMul, Nat.reduceEqDiff, Nat.reduceLeDiff, Nat.reduceLT, qJ, qK, qL, qM, qN, qO, qP, qQ, qR, zI, qS, qC, qT, evSlice0, qV, qW, qX, qY, qZ, zJ, zK, zL, wit, Option.isSome_some, qH, xK, evPre, St.with, zD, Array.size, toldV, isIntV, orArr, offB, effFr, effFr2, effFr3, mapIn, restSame, sameO, eqW, eqWL, pickR, te, einl, inls, efr]
  · have hall : ∀ q ∈ pre ++ [p], 1 ≤ q.mass ∧ q.mass ≤ 100000 := fun q hq => h2 q (by rw [hp]; simp at hq ⊢; rcases hq with h | h <;> simp [h])
    have b1 := sumP_le (pre ++ [p]) hall
    have b2 := congrArg List.length hp
    simp only [List.length_append, List.length_cons, List.length_nil] at b1 b2
    have e1 : sumP pre + p.mass = sumP (pre ++ [p]) := by rw [sumP_app]; simp [sumP]
    have w1 : IntKind.i64.wrap (sumP pre + p.mass) = sumP (pre ++ [p]) := by rw [e1, wrap_in (by omega)]
    simp (maxSteps := 1000000) (implicitDefEqProofs := false) only [g1, g2, g3, g4, w1, encPart, Int.natCast_nonneg, Int.toNat_natCast, List.getElem?_map, List.length_map, ss, sd, zH, qG, zF, zG, St.get, qE, qF, qB, zC, norm, look, zE, qA, qI, St.alloc, St.drop, zA, part, zB, depth, qD, ↓reduceIte, Nat.reduceBEq, Nat.reduceAdd, Nat.reduceSub, Nat.reduceMul, Nat.reduceEqDiff, Nat.reduceLeDiff, Nat.reduceLT, qJ, qK, qL, qM, qN, qO, qP, qQ, qR, zI, qS, qC, qT, evSlice0, qV, qW, qX, qY, qZ, zJ, zK, zL, wit, Option.isSome_some, qH, xK, evPre, St.with, zD, Array.size, toldV, isIntV, orArr, offB, effFr, effFr2, effFr3, mapIn, restSame, sameO, eqW, eqWL, pickR, te, einl, inls, efr]
    (first | exact ⟨(), trivial⟩ | refine ⟨(), ?_, trivial⟩ | skip)

def lostM (x : Lot) : Int := if x.parts = [] then 0 else sumP x.parts - x.mass
theorem okT27 : okCode (Try.f27.body.getD .skip) = true := by decide +kernel
theorem c27 (x : Lot) (h : PartsOk x.parts) (hm : 1 ≤ x.mass ∧ x.mass ≤ 100000) : (orcω E X0).call 27 [encLot x] = some (.int .i64 (lostM x)) := by
  refine call_of rfl fn27 rfl ?_
  have hok := okT27
  simp only [Try.f27, Option.getD_some, okCode, Bool.and_eq_true, Bool.and_true, Bool.true_and] at hok
  have k1 := c39 x h
  obtain ⟨k, m, ps⟩ := x
  have b := sumP_le ps h.2
  have b1 := h.1
  dsimp only at hm b1 ⊢
  have w1 : IntKind.i64.wrap (sumP ps - m) = sumP ps - m := wrap_in (by omega)
  unfold lostM
  cases ps with
  | nil => simp (maxSteps := 1000000) (implicitDefEqProofs := false) only [encLot, List.map_nil, List.length_nil, Int.natCast_zero, beq_self_eq_true, if_true, Try.ntmps27, Try.results27, efc27, ss, sd, zH, qG, zF, zG, St.get, qE, qF, qB, zC, norm, look, zE, qA, qI, St.alloc, St.drop, zA, part, zB, depth, qD, ↓reduceIte, Nat.reduceBEq, Nat.reduceAdd, Nat.reduceSub, Nat.reduceMul, Nat.reduceEqDiff, Nat.reduceLeDiff, Nat.reduceLT, qJ, qK, qL, qM, qN, qO, qP, qQ, qR, zI, qS, qC, qT, evSlice0, qV, qW, qX, qY, qZ, zJ, zK, zL, wit, Option.isSome_some, qH, xK, evPre, St.with, zD, Array.size, toldV, isIntV, orArr, offB, effFr, effFr2, effFr3, mapIn, restSame, sameO, eqW, eqWL, pickR, te, einl, inls, efr]
  | cons p r =>
    have q1 : (((p :: r).length : Int) == 0) = false := by simp; omega
    simp only [encLot] at k1
    generalize hps : p :: r = ps at *
    have q2 : ¬ ps = [] := by rw [← hps]; simp
    simp (maxSteps := 1000000) (implicitDefEqProofs := false) only [encLot, List.length_map, q1, q2, k1, w1, evRegion_st hok, if_false, Try.ntmps27, Try.results27, efc27, ss, sd, zH, qG, zF, zG, St.get, qE, qF, qB, zC, norm, look, zE, qA, qI, St.alloc, St.drop, zA, part, zB, depth, qD, ↓reduceIte, Nat.reduceBEq, Nat.reduceAdd, Nat.reduceSub, Nat.reduceMul, Nat.reduceEqDiff, Nat.reduceLeDiff, Nat.reduceLT, qJ, qK, qL, qM, qN, qO, qP, qQ, qR, zI, qS, qC, qT, evSlice0, qV, qW, qX, qY, qZ, zJ, zK, zL, wit, Option.isSome_some, qH, xK, evPre, St.with, zD, Array.size, toldV, isIntV, orArr, offB, effFr, effFr2, effFr3, mapIn, restSame, sameO, eqW, eqWL, pickR, te, einl, inls, efr]

def idxF {α : Type} (q : α → Bool) : Nat → List α → Int
  | _, [] => -1
  | i, x :: r => if q x = true then (i : Int) else idxF q (i + 1) r
theorem idx_split {α : Type} {q : α → Bool} : ∀ (pre post : List α) (i : Nat), pre.any q = false → idxF q i (pre ++ post) = idxF q (i + pre.length) post
  | [], _, _, _ => rfl
  | x :: pre, post, i, h => by
    rw [List.any_cons, Bool.or_eq_false_iff] at h
    rw [List.cons_append, idxF, if_neg (by rw [h.1]; simp), idx_split pre post (i + 1) h.2, List.length_cons]
    congr 1
    omega
theorem idx_any {α : Type} {q : α → Bool} : ∀ (l : List α) (i : Nat), decide (0 ≤ idxF q i l) = l.any q
  | [], _ => rfl
  | x :: l, i => by
    rw [idxF, List.any_cons]
    cases h : q x with
    | true => simp
    | false => simpa using idx_any l (i + 1)

theorem c47 (q p : Part) : (orcω E X0).call 47 [encPart q, .fp false [.int .i64 p.lot, .int .i64 p.mass] 0] = some (.bool (q.lot == p.lot)) := by
  refine call_of rfl fn47 rfl ?_
  simp (maxSteps := 1000000) (implicitDefEqProofs := false) only [encPart, Try.ntmps47, Try.results47, efc47, ss, sd, zH, qG, zF, zG, St.get, qE, qF, qB, zC, norm, look, zE, qA, qI, St.alloc, St.drop, zA, part, zB, depth, qD, ↓reduceIte, Nat.reduceBEq, Nat.reduceAdd, Nat.reduceSub, Nat.reduceMul, Nat.reduceEqDiff, Nat.reduceLeDiff, Nat.reduceLT, qJ, qK, qL, qM, qN, qO, qP, qQ, qR, zI, qS, qC, qT, evSlice0, qV, qW, qX, qY, qZ, zJ, zK, zL, wit, Option.isSome_some, qH, xK, evPre, St.with, zD, Array.size, toldV, isIntV, orArr, offB, effFr, effFr2, effFr3, mapIn, restSame, sameO, eqW, eqWL, pickR, te, einl, inls, efr]

theorem c38 (l : List Lot) (p : Part) (h : 0 ≤ p.lot ∧ p.lot < l.length) : (orcω E X0).call 38 [encPart p, .fp false [encLots l] 0] = some (.bool ((lotAt l p.lot).kind == 0)) := by
  refine call_of rfl fn38 rfl ?_
  have g1 : (l.map encLot)[p.lot.toNat]? = some (encLot (lotAt l p.lot)) := by
    rw [List.getElem?_map, List.getElem?_eq_getElem (by omega)]
    unfold lotAt
    rw [List.getD_eq_getElem?_getD, List.getElem?_eq_getElem (by omega)]; rfl
  generalize lotAt l p.lot = x at *
  obtain ⟨h1, h2⟩ := h
  simp (maxSteps := 1000000) (implicitDefEqProofs := false) only [encPart, encLots, h1, h2, List.length_map, g1, encLot, Try.ntmps38, Try.results38, efc38, ss, sd, zH, qG, zF, zG, St.get, qE, qF, qB, zC, norm, look, zE, qA, qI, St.alloc, St.drop, zA, part, zB, depth, qD, ↓reduceIte, Nat.reduceBEq, Nat.reduceAdd, Nat.reduceSub, Nat.reduceMul, Nat.reduceEqDiff, Nat.reduceLeDiff, Nat.reduceLT, qJ, qK, qL, qM, qN, qO, qP, qQ, qR, zI, qS, qC, qT, evSlice0, qV, qW, qX, qY, qZ, zJ, zK, zL, wit, Option.isSome_some, qH, xK, evPre, St.with, zD, Array.size, toldV, isIntV, orArr, offB, effFr, effFr2, effFr3, mapIn, restSame, sameO, eqW, eqWL, pickR, te, einl, inls, efr]

section
variable {fw : Nat} {cap : List V} {q : Part → Bool}
theorem c48 (hn : (fw == 7) = false ∧ (fw == 16) = false ∧ (fw == 18) = false ∧ (fw == 19) = false ∧ (fw == 32) = false ∧ (fw == 41) = false) (ps : List Part) (hl : ps.length ≤ 1000000) (hc : xU false cap = cap) (hr : ∀ os, allM (resolve os 6) cap = some cap) (hr5 : ∀ os, allM (resolve os 5) cap = some cap)
    (hW : ∀ p ∈ ps, (orcω E X0).call fw (encPart p :: cap) = some (.bool (q p))) : (orcω E X0).call 48 [.sl false (ps.map encPart), .clo fw [] cap] = some (.int .i64 (idxF q 0 ps)) := by
  refine call_of rfl fn48 rfl ?_
  obtain ⟨n1, n2, n3, n4, n5, n6⟩ := hn
  simp (maxSteps := 1000000) (implicitDefEqProofs := false) only [Try.ntmps48, Try.results48, efc48, fc48, ss, sd, zH, qG, zF, zG, St.get, qE, qF, qB, zC, norm, look, zE, qA, qI, St.alloc, St.drop, zA, part, zB, depth, qD, ↓reduceIte, Nat.reduceBEq, Nat.reduceAdd, Nat.reduceSub, Nat.reduceMul, Nat.reduceEqDiff, Nat.reduceLeDiff, Nat.reduceLT, qJ, qK, qL, qM, qN, qO, qP, qQ, qR, zI, qS, qC, qT, evSlice0, qV, qW, qX, qY, qZ, zJ, zK, zL, wit, Option.isSome_some, qH, xK, evPre, St.with, zD, Array.size, toldV, isIntV, orArr, offB, effFr, effFr2, effFr3, mapIn, restSame, sameO, eqW, eqWL, pickR, te, einl, inls, efr]
  generalize hr : loopAt _ _ _ _ _ _ = r; revert r
  refine loop_list ps (fun pre _ => [(8, .int .i64 pre.length)]) (fun _ _ => []) (fun pre (_ : Unit) => pre.any q = false) () (by omega) (by simp (maxSteps := 1000000) (implicitDefEqProofs := false) only [ss, sd, zH, qG, zF, zG, St.get, qE, qF, qB, zC, norm, look, zE, qA, qI, St.alloc, St.drop, zA, part, zB, depth, qD, ↓reduceIte, Nat.reduceBEq, Nat.reduceAdd, Nat.reduceSub, Nat.reduceMul, Nat.reduceEqDiff, Nat.reduceLeDiff, Nat.reduceLT, qJ, qK, qL, qM, qN, qO, qP, qQ, qR, zI, qS, qC, qT, evSlice0, qV, qW, qX, qY, qZ, zJ, zK, zL, wit, Option.isSome_some, qH, xK, evPre, St.with, zD, Array.size, toldV, isIntV, orArr, offB, effFr, effFr2, effFr3, mapIn, restSame, sameO, eqW, eqWL, pickR, te, einl, inls, efr]) rfl (fun _ hi => ?_) (fun pre x post _ hq hi g1 g2 g3 g4 => ?_)
  · have e1 : idxF q 0 ps = -1 := by
      have := idx_split ps [] 0 hi
      rw [List.append_nil] at this
      rw [this]; rfl
    simp (maxSteps := 1000000) (implicitDefEqProofs := false) only [Int.lt_irrefl, e1, Try.ntmps48, Try.results48, efc48, fc48, List.length_map, ss, sd, zH, qG, zF, zG, St.get, qE, qF, qB, zC, norm, look, zE, qA, qI, St.alloc, St.drop, zA, part, zB, depth, qD, ↓reduceIte, Nat.reduceBEq, Nat.reduceAdd, Nat.reduceSub, Nat.reduceMul, Nat.reduceEqDiff, Nat.reduceLeDiff, Nat.reduceLT, qJ, qK, qL, qM, qN, qO, qP, qQ, qR, zI, qS, qC, qT, evSlice0, qV, qW, qX, qY, qZ, zJ, zK, zL, wit, Option.isSome_some, qH, xK, evPre, St.with, zD, Array.size, toldV, isIntV, orArr, offB, effFr, effFr2, effFr3, mapIn, restSame, sameO, eqW, eqWL, pickR, te, einl, inls, efr]
  · have k2 := hW x (List.mem_of_getElem? g3)
    have e1 := idx_split pre (x :: post) 0 hi
    rw [← hq, Nat.zero_add, idxF] at e1
    unfold encPart at k2
    cases hp : q x with
    | true =>
      rw [hp] at k2 e1
      rw [if_pos rfl] at e1
      simp (maxSteps := 1000000) (implicitDefEqProofs := false) only [g1, g2, g3, g4, k2, e1, hc, hr, n1, n2, n3, n4, n5, n6, encPart, Try.ntmps48, Try.results48, efc48, fc48, Int.natCast_nonneg, Int.toNat_natCast, List.getElem?_map, List.length_map, ss, sd, zH, qG, zF, zG, St.get, qE, qF, qB, zC, norm, look, zE, qA, qI, St.alloc, St.drop, zA, part, zB, depth, qD, ↓reduceIte, Nat.reduceBEq, Nat.reduceAdd, Nat.reduceSub, Nat.reduceMul, Nat.reduceEqDiff, Nat.reduceLeDiff, Nat.reduceLT, qJ, qK, qL, qM, qN, qO, qP, qQ, qR, zI, qS, qC, qT, evSlice0, qV, qW, qX, qY, qZ, zJ, zK, zL, wit, Option.isSome_some, qH, xK, evPre, St.with, zD, Array.size, toldV, isIntV, orArr, offB, effFr, effFr2, effFr3, mapIn, restSame, sameO, eqW, eqWL, pickR, te, einl, inls, efr]
    | false =>
      rw [hp] at k2
      simp (maxSteps := 1000000) (implicitDefEqProofs := false) only [g1, g2, g3, g4, k2, hc, hr, n1, n2, n3, n4, n5, n6, encPart, Int.natCast_nonneg, Int.toNat_natCast, List.getElem?_map, List.length_map, ss, sd, zH, qG, zF, zG, St.get, qE, qF, qB, zC, norm, look, zE, qA, qI, St.alloc, St.drop, zA, part, zB, depth, qD, ↓reduceIte, Nat.reduceBEq, Nat.reduceAdd, Nat.reduceSub, Nat.reduceMul, Nat.reduceEqDiff, Nat.reduceLeDiff, Nat.reduceLT, qJ, qK, qL, qM, qN, qO, qP, qQ, qR, zI, qS, qC, qT, evSlice0, qV, qW, qX, qY, qZ, zJ, zK, zL, wit, Option.isSome_some, qH, xK, evPre, St.with, zD, Array.size, toldV, isIntV, orArr, offB, effFr, effFr2, effFr3, mapIn, restSame, sameO, eqW, eqWL, pickR, te, einl, inls, efr]
      exact ⟨(), by rw [List.any_append, hi]; simp [hp]⟩
theorem c37 (hn : (fw == 7) = false ∧ (fw == 16) = false ∧ (fw == 18) = false ∧ (fw == 19) = false ∧ (fw == 32) = false ∧ (fw == 41) = false) (ps : List Part) (hl : ps.length ≤ 1000000) (hc : xU false cap = cap) (hr : ∀ os, allM (resolve os 6) cap = some cap) (hr5 : ∀ os, allM (resolve os 5) cap = some cap)
    (hW : ∀ p ∈ ps, (orcω E X0).call fw (encPart p :: cap) = some (.bool (q p))) : (orcω E X0).call 37 [.sl false (ps.map encPart), .clo fw [] cap] = some (.bool (ps.any q)) := by
  refine call_of rfl fn37 rfl ?_
  have k1 := c48 hn ps hl hc hr hr5 hW
  have e := idx_any (q := q) ps 0
  simp (maxSteps := 1000000) (implicitDefEqProofs := false) only [Try.ntmps37, Try.results37, efc37, k1, e, hc, hr5, ss, sd, zH, qG, zF, zG, St.get, qE, qF, qB, zC, norm, look, zE, qA, qI, St.alloc, St.drop, zA, part, zB, depth, qD, ↓reduceIte, Nat.reduceBEq, Nat.reduceAdd, Nat.reduceSub, Nat.reduceMul, Nat.reduceEqDiff, Nat.reduceLeDiff, Nat.reduceLT, qJ, qK, qL, qM, qN, qO, qP, qQ, qR, zI, qS, qC, qT, evSlice0, qV, qW, qX, qY, qZ, zJ, zK, zL, wit, Option.isSome_some, qH, xK, evPre, St.with, zD, Array.size, toldV, isIntV, orArr, offB, effFr, effFr2, effFr3, mapIn, restSame, sameO, eqW, eqWL, pickR, te, einl, inls, efr]
end

theorem tn0 : Int.toNat 0 = 0 := rfl
theorem sized_part : ∀ ps : List Part, sized 2 (ps.map encPart) = true
  | [] => rfl
  | p :: r => by rw [List.map_cons, sized, sized_part r]; rfl
set_option maxHeartbeats 8000000 in
theorem c36 (l : List Lot) (i : Nat) (hi : i < l.length) (hl : l.length ≤ 40) (hp : l[i].parts.length ≤ 20) : (orcω E X0).call 36 [encLots l, .int .i64 (i : Nat)] = some (.int .i64 (partsE i l[i].parts)) := by
  refine call_of rfl fn36 rfl ?_
  have g1 : (l.map encLot)[i]? = some (encLot l[i]) := by rw [List.getElem?_map, List.getElem?_eq_getElem hi]; rfl
  generalize l[i] = x at *
  obtain ⟨k, m, ps⟩ := x
  dsimp only at hp ⊢
  have hi' : (i : Int) < l.length := by omega
  unfold partsE
  by_cases h6 : 6 < ps.length
  · have p1 : (6 : Int) < ps.length := by omega
    simp (maxSteps := 1000000) (implicitDefEqProofs := false) only [encLots, encLot, List.length_map, Int.natCast_nonneg, Int.toNat_natCast, hi', g1, p1, h6, if_true, Try.ntmps36, Try.results36, efc36, fc36, ss, sd, zH, qG, zF, zG, St.get, qE, qF, qB, zC, norm, look, zE, qA, qI, St.alloc, St.drop, zA, part, zB, depth, qD, ↓reduceIte, Nat.reduceBEq, Nat.reduceAdd, Nat.reduceSub, Nat.reduceMul, Nat.reduceEqDiff, Nat.reduceLeDiff, Nat.reduceLT, qJ, qK, qL, qM, qN, qO, qP, qQ, qR, zI, qS, qC, qT, evSlice0, qV, qW, qX, qY, qZ, zJ, zK, zL, wit, Option.isSome_some, qH, xK, evPre, St.with, zD, Array.size, toldV, isIntV, orArr, offB, effFr, effFr2, effFr3, mapIn, restSame, sameO, eqW, eqWL, pickR, te, einl, inls, efr]
  have p1 : ¬ (6 : Int) < ps.length := by omega
  simp (maxSteps := 1000000) (implicitDefEqProofs := false) only [encLots, encLot, List.length_map, Int.natCast_nonneg, Int.toNat_natCast, hi', g1, p1, h6, if_false, Try.ntmps36, Try.results36, efc36, fc36, ss, sd, zH, qG, zF, zG, St.get, qE, qF, qB, zC, norm, look, zE, qA, qI, St.alloc, St.drop, zA, part, zB, depth, qD, ↓reduceIte, Nat.reduceBEq, Nat.reduceAdd, Nat.reduceSub, Nat.reduceMul, Nat.reduceEqDiff, Nat.reduceLeDiff, Nat.reduceLT, qJ, qK, qL, qM, qN, qO, qP, qQ, qR, zI, qS, qC, qT, evSlice0, qV, qW, qX, qY, qZ, zJ, zK, zL, wit, Option.isSome_some, qH, xK, evPre, St.with, zD, Array.size, toldV, isIntV, orArr, offB, effFr, effFr2, effFr3, mapIn, restSame, sameO, eqW, eqWL, pickR, te, einl, inls, efr]
  generalize hr : loopAt _ _ _ _ _ _ = r; revert r
  refine loop_list ps (fun pre _ => [(19, .int .i64 pre.length)]) (fun _ _ => []) (fun pre (_ : Unit) => badIn i [] pre = false) () (by omega) (by simp (maxSteps := 1000000) (implicitDefEqProofs := false) only [ss, sd, zH, qG, zF, zG, St.get, qE, qF, qB, zC, norm, look, zE, qA, qI, St.alloc, St.drop, zA, part, zB, depth, qD, ↓reduceIte, Nat.reduceBEq, Nat.reduceAdd, Nat.reduceSub, Nat.reduceMul, Nat.reduceEqDiff, Nat.reduceLeDiff, Nat.reduceLT, qJ, qK, qL, qM, qN, qO, qP, qQ, qR, zI, qS, qC, qT, evSlice0, qV, qW, qX, qY, qZ, zJ, zK, zL, wit, Option.isSome_some, qH, xK, evPre, St.with, zD, Array.size, toldV, isIntV, orArr, offB, effFr, effFr2, effFr3, mapIn, restSame, sameO, eqW, eqWL, pickR, te, einl, inls, efr]) rfl (fun _ hq => ?_) (fun pre x post _ hq hi0 g2 g3 g4 g5 => ?_)
  · simp (maxSteps := 1000000) (implicitDefEqProofs := false) only [Int.lt_irrefl, hq, Try.ntmps36, Try.results36, efc36, fc36, ss, sd, zH, qG, zF, zG, St.get, qE, qF, qB, zC, norm, look, zE, qA, qI, St.alloc, St.drop, zA, part, zB, depth, qD, ↓reduceIte, Nat.reduceBEq, Nat.reduceAdd, Nat.reduceSub, Nat.reduceMul, Nat.reduceEqDiff, Nat.reduceLeDiff, Nat.reduceLT, qJ, qK, qL, qM, qN, qO, qP, qQ, qR, zI, qS, qC, qT, evSlice0, qV, qW, qX, qY, qZ, zJ, zK, zL, wit, Option.isSome_some, qH, xK, evPre, St.with, zD, Array.size, toldV, isIntV, orArr, offB, effFr, effFr2, effFr3, mapIn, restSame, sameO, eqW, eqWL, pickR, te, einl, inls, efr]
  · have c1 : badIn i [] ps = (badPart i pre x || badIn i (pre ++ [x]) post) := by
      rw [hq, badIn_app, hi0, Bool.false_or]; rfl
    have c2 : badIn i [] (pre ++ [x]) = badPart i pre x := by
      rw [badIn_app, hi0, Bool.false_or]; simp [badIn]
    have hlen : pre.length ≤ ps.length := by rw [hq]; simp
    have ht : (ps.map encPart).take pre.length = pre.map encPart := by rw [hq]; simp
    have k1 := c37 (fw := 47) (cap := [.fp false [.int .i64 x.lot, .int .i64 x.mass] 0]) (q := fun q => q.lot == x.lot) (by decide) pre (by omega) rfl (fun _ => rfl) (fun _ => rfl) (fun q _ => c47 q x)
    have hle : (pre.length : Int) ≤ ps.length := by omega
    by_cases h1 : x.lot < 0
    · have c3 : badIn i [] ps = true := by rw [c1]; simp [badPart, h1]
      simp (maxSteps := 1000000) (implicitDefEqProofs := false) only [g2, g3, g4, g5, h1, c3, if_true, encPart, Int.natCast_nonneg, Int.toNat_natCast, List.getElem?_map, List.length_map, Try.ntmps36, Try.results36, efc36, fc36, ss, sd, zH, qG, zF, zG, St.get, qE, qF, qB, zC, norm, look, zE, qA, qI, St.alloc, St.drop, zA, part, zB, depth, qD, ↓reduceIte, Nat.reduceBEq, Nat.reduceAdd, Nat.reduceSub, Nat.reduceMul, Nat.reduceEqDiff, Nat.reduceLeDiff, Nat.reduceLT, qJ, qK, qL, qM, qN, qO, qP, qQ, qR, zI, qS, qC, qT, evSlice0, qV, qW, qX, qY, qZ, zJ, zK, zL, wit, Option.isSome_some, qH, xK, evPre, St.with, zD, Array.size, toldV, isIntV, orArr, offB, effFr, effFr2, effFr3, mapIn, restSame, sameO, eqW, eqWL, pickR, te, einl, inls, efr]
    by_cases h2 : (i : Int) ≤ x.lot
    · have c3 : badIn i [] ps = true := by rw [c1]; simp [badPart, h2]
      simp (maxSteps := 1000000) (implicitDefEqProofs := false) only [g2, g3, g4, g5, h1, h2, c3, if_true, encPart, Int.natCast_nonneg, Int.toNat_natCast, List.getElem?_map, List.length_map, Try.ntmps36, Try.results36, efc36, fc36, ss, sd, zH, qG, zF, zG, St.get, qE, qF, qB, zC, norm, look, zE, qA, qI, St.alloc, St.drop, zA, part, zB, depth, qD, ↓reduceIte, Nat.reduceBEq, Nat.reduceAdd, Nat.reduceSub, Nat.reduceMul, Nat.reduceEqDiff, Nat.reduceLeDiff, Nat.reduceLT, qJ, qK, qL, qM, qN, qO, qP, qQ, qR, zI, qS, qC, qT, evSlice0, qV, qW, qX, qY, qZ, zJ, zK, zL, wit, Option.isSome_some, qH, xK, evPre, St.with, zD, Array.size, toldV, isIntV, orArr, offB, effFr, effFr2, effFr3, mapIn, restSame, sameO, eqW, eqWL, pickR, te, einl, inls, efr]
    by_cases h3 : x.mass < 1
    · have c3 : badIn i [] ps = true := by rw [c1]; simp [badPart, h3]
      simp (maxSteps := 1000000) (implicitDefEqProofs := false) only [g2, g3, g4, g5, h1, h2, h3, c3, if_true, encPart, Int.natCast_nonneg, Int.toNat_natCast, List.getElem?_map, List.length_map, Try.ntmps36, Try.results36, efc36, fc36, ss, sd, zH, qG, zF, zG, St.get, qE, qF, qB, zC, norm, look, zE, qA, qI, St.alloc, St.drop, zA, part, zB, depth, qD, ↓reduceIte, Nat.reduceBEq, Nat.reduceAdd, Nat.reduceSub, Nat.reduceMul, Nat.reduceEqDiff, Nat.reduceLeDiff, Nat.reduceLT, qJ, qK, qL, qM, qN, qO, qP, qQ, qR, zI, qS, qC, qT, evSlice0, qV, qW, qX, qY, qZ, zJ, zK, zL, wit, Option.isSome_some, qH, xK, evPre, St.with, zD, Array.size, toldV, isIntV, orArr, offB, effFr, effFr2, effFr3, mapIn, restSame, sameO, eqW, eqWL, pickR, te, einl, inls, efr]
    by_cases h4 : 100000 < x.mass
    · have c3 : badIn i [] ps = true := by rw [c1]; simp [badPart, h4]
      simp (maxSteps := 1000000) (implicitDefEqProofs := false) only [g2, g3, g4, g5, h1, h2, h3, h4, c3, if_true, encPart, Int.natCast_nonneg, Int.toNat_natCast, List.getElem?_map, List.length_map, Try.ntmps36, Try.results36, efc36, fc36, ss, sd, zH, qG, zF, zG, St.get, qE, qF, qB, zC, norm, look, zE, qA, qI, St.alloc, St.drop, zA, part, zB, depth, qD, ↓reduceIte, Nat.reduceBEq, Nat.reduceAdd, Nat.reduceSub, Nat.reduceMul, Nat.reduceEqDiff, Nat.reduceLeDiff, Nat.reduceLT, qJ, qK, qL, qM, qN, qO, qP, qQ, qR, zI, qS, qC, qT, evSlice0, qV, qW, qX, qY, qZ, zJ, zK, zL, wit, Option.isSome_some, qH, xK, evPre, St.with, zD, Array.size, toldV, isIntV, orArr, offB, effFr, effFr2, effFr3, mapIn, restSame, sameO, eqW, eqWL, pickR, te, einl, inls, efr]
    have c4 : badPart i pre x = pre.any fun q => q.lot == x.lot := by simp only [badPart, h1, h2, h3, h4, decide_false, Bool.false_or]
    cases h5 : pre.any fun q => q.lot == x.lot with
    | true =>
      have c3 : badIn i [] ps = true := by rw [c1, c4, h5]; rfl
      rw [h5] at k1
      simp (maxSteps := 1000000) (implicitDefEqProofs := false) only [g2, g3, g4, g5, h1, h2, h3, h4, k1, hle, ht, Int.le_refl, Int.sub_zero, tn0, List.drop_zero, sized_part, c3, if_true, encPart, Int.natCast_nonneg, Int.toNat_natCast, List.getElem?_map, List.length_map, Try.ntmps36, Try.results36, efc36, fc36, ss, sd, zH, qG, zF, zG, St.get, qE, qF, qB, zC, norm, look, zE, qA, qI, St.alloc, St.drop, zA, part, zB, depth, qD, ↓reduceIte, Nat.reduceBEq, Nat.reduceAdd, Nat.reduceSub, Nat.reduceMul, Nat.reduceEqDiff, Nat.reduceLeDiff, Nat.reduceLT, qJ, qK, qL, qM, qN, qO, qP, qQ, qR, zI, qS, qC, qT, evSlice0, qV, qW, qX, qY, qZ, zJ, zK, zL, wit, Option.isSome_some, qH, xK, evPre, St.with, zD, Array.size, toldV, isIntV, orArr, offB, effFr, effFr2, effFr3, mapIn, restSame, sameO, eqW, eqWL, pickR, te, einl, inls, efr]
    | false =>
      rw [h5] at k1
      simp (maxSteps := 1000000) (implicitDefEqProofs := false) only [g2, g3, g4, g5, h1, h2, h3, h4, k1, hle, ht, Int.le_refl, Int.sub_zero, tn0, List.drop_zero, sized_part, encPart, Int.natCast_nonneg, Int.toNat_natCast, List.getElem?_map, List.length_map, ss, sd, zH, qG, zF, zG, St.get, qE, qF, qB, zC, norm, look, zE, qA, qI, St.alloc, St.drop, zA, part, zB, depth, qD, ↓reduceIte, Nat.reduceBEq, Nat.reduceAdd, Nat.reduceSub, Nat.reduceMul, Nat.reduceEqDiff, Nat.reduceLeDiff, Nat.reduceLT, qJ, qK, qL, qM, qN, qO, qP, qQ, qR, zI, qS, qC, qT, evSlice0, qV, qW, qX, qY, qZ, zJ, zK, zL, wit, Option.isSome_some, qH, xK, evPre, St.with, zD, Array.size, toldV, isIntV, orArr, offB, effFr, effFr2, effFr3, mapIn, restSame, sameO, eqW, eqWL, pickR, te, einl, inls, efr]
      exact ⟨(), by rw [c2, c4, h5]⟩
end Go.AM.F

