/-
Lots: the error of a genealogy, what is left of a lot and what it lost.
-/
import Derived.Test.YteocppddjlglbaaFLotC
set_option linter.unusedVariables false
set_option linter.unusedSimpArgs false
set_option maxRecDepth 20000

namespace Go.AM.F
open Go Go.AM Go.Proofs

theorem ints_map (n : Nat) (f : Nat → Int) : ints n f = ((List.range n).map f).map vI := by
  unfold ints; rw [List.map_map]; rfl

theorem c23 (z : Int) : (orcω E X0).call 23 [.int .i64 z] = some (.bool (decide (z < 0))) := by
  refine call_of rfl fn23 rfl ?_
  simp (maxSteps := 1000000) (implicitDefEqProofs := false) only [Try.ntmps23, Try.results23, efc23, ss, sd, zH, qG, zF, zG, St.get, qE, qF, qB, zC, norm, look, zE, qA, qI, St.alloc, St.drop, zA, part, zB, depth, qD, ↓reduceIte, Nat.reduceBEq, Nat.reduceAdd, Nat.reduceSub, Nat.reduceMul, Nat.reduceEqDiff, Nat.reduceLeDiff, Nat.reduceLT, qJ, qK, qL, qM, qN, qO, qP, qQ, qR, zI, qS, qC, qT, evSlice0, qV, qW, qX, qY, qZ, zJ, zK, zL, wit, Option.isSome_some, qH, xK, evPre, St.with, zD, Array.size, toldV, isIntV, orArr, offB, effFr, effFr2, effFr3, mapIn, restSame, sameO, eqW, eqWL, pickR, te, einl, inls, efr]
set_option maxHeartbeats 4000000 in
theorem c40 (zs : List Int) (hl : zs.length ≤ 1000000) : (orcω E X0).call 40 [.sl false (zs.map vI), .clo 23 [] []] = some (.int .i64 (idxF (fun z => decide (z < 0)) 0 zs)) := by
  refine call_of rfl fn40 rfl ?_
  simp (maxSteps := 1000000) (implicitDefEqProofs := false) only [Try.ntmps40, Try.results40, efc40, fc40, ss, sd, zH, qG, zF, zG, St.get, qE, qF, qB, zC, norm, look, zE, qA, qI, St.alloc, St.drop, zA, part, zB, depth, qD, ↓reduceIte, Nat.reduceBEq, Nat.reduceAdd, Nat.reduceSub, Nat.reduceMul, Nat.reduceEqDiff, Nat.reduceLeDiff, Nat.reduceLT, qJ, qK, qL, qM, qN, qO, qP, qQ, qR, zI, qS, qC, qT, evSlice0, qV, qW, qX, qY, qZ, zJ, zK, zL, wit, Option.isSome_some, qH, xK, evPre, St.with, zD, Array.size, toldV, isIntV, orArr, offB, effFr, effFr2, effFr3, mapIn, restSame, sameO, eqW, eqWL, pickR, te, einl, inls, efr]
  generalize hr : loopAt _ _ _ _ _ _ = r; revert r
  refine loop_list zs (fun pre _ => [(8, .int .i64 pre.length)]) (fun _ _ => []) (fun pre (_ : Unit) => pre.any (fun z => decide (z < 0)) = false) () (by omega) (by simp (maxSteps := 1000000) (implicitDefEqProofs := false) only [ss, sd, zH, qG, zF, zG, St.get, qE, qF, qB, zC, norm, look, zE, qA, qI, St.alloc, St.drop, zA, part, zB, depth, qD, ↓reduceIte, Nat.reduceBEq, Nat.reduceAdd, Nat.reduceSub, Nat.reduceMul, Nat.reduceEqDiff, Nat.reduceLeDiff, Nat.reduceLT, qJ, qK, qL, qM, qN, qO, qP, qQ, qR, zI, qS, qC, qT, evSlice0, qV, qW, qX, qY, qZ, zJ, zK, zL, wit, Option.isSome_some, qH, xK, evPre, St.with, zD, Array.size, toldV, isIntV, orArr, offB, effFr, effFr2, effFr3, mapIn, restSame, sameO, eqW, eqWL, pickR, te, einl, inls, efr]) rfl (fun _ hi => ?_) (fun pre x post _ hq hi g1 g2 g3 g4 => ?_)
  · have e1 : idxF (fun z => decide (z < 0)) 0 zs = -1 := by
      have := idx_split zs [] 0 hi
      rw [List.append_nil] at this
      rw [this]; rfl
    simp (maxSteps := 1000000) (implicitDefEqProofs := false) only [Int.lt_irrefl, e1, Try.ntmps40, Try.results40, efc40, fc40, List.length_map, ss, sd, zH, qG, zF, zG, St.get, qE, qF, qB, zC, norm, look, zE, qA, qI, St.alloc, St.drop, zA, part, zB, depth, qD, ↓reduceIte, Nat.reduceBEq, Nat.reduceAdd, Nat.reduceSub, Nat.reduceMul, Nat.reduceEqDiff, Nat.reduceLeDiff, Nat.reduceLT, qJ, qK, qL, qM, qN, qO, qP, qQ, qR, zI, qS, qC, qT, evSlice0, qV, qW, qX, qY, qZ, zJ, zK, zL, wit, Option.isSome_some, qH, xK, evPre, St.with, zD, Array.size, toldV, isIntV, orArr, offB, effFr, effFr2, effFr3, mapIn, restSame, sameO, eqW, eqWL, pickR, te, einl, inls, efr]
  · have k2 := c23 x
    have e1 := idx_split pre (x :: post) 0 hi
    rw [← hq, Nat.zero_add, idxF] at e1
    by_cases hp : x < 0
    · rw [decide_eq_true hp] at k2 e1
      rw [if_pos rfl] at e1
      simp (maxSteps := 1000000) (implicitDefEqProofs := false) only [g1, g2, g3, g4, k2, e1, vI, Try.ntmps40, Try.results40, efc40, fc40, Int.natCast_nonneg, Int.toNat_natCast, List.getElem?_map, List.length_map, ss, sd, zH, qG, zF, zG, St.get, qE, qF, qB, zC, norm, look, zE, qA, qI, St.alloc, St.drop, zA, part, zB, depth, qD, ↓reduceIte, Nat.reduceBEq, Nat.reduceAdd, Nat.reduceSub, Nat.reduceMul, Nat.reduceEqDiff, Nat.reduceLeDiff, Nat.reduceLT, qJ, qK, qL, qM, qN, qO, qP, qQ, qR, zI, qS, qC, qT, evSlice0, qV, qW, qX, qY, qZ, zJ, zK, zL, wit, Option.isSome_some, qH, xK, evPre, St.with, zD, Array.size, toldV, isIntV, orArr, offB, effFr, effFr2, effFr3, mapIn, restSame, sameO, eqW, eqWL, pickR, te, einl, inls, efr]
    · rw [decide_eq_false hp] at k2
      simp (maxSteps := 1000000) (implicitDefEqProofs := false) only [g1, g2, g3, g4, k2, vI, Int.natCast_nonneg, Int.toNat_natCast, List.getElem?_map, List.length_map, ss, sd, zH, qG, zF, zG, St.get, qE, qF, qB, zC, norm, look, zE, qA, qI, St.alloc, St.drop, zA, part, zB, depth, qD, ↓reduceIte, Nat.reduceBEq, Nat.reduceAdd, Nat.reduceSub, Nat.reduceMul, Nat.reduceEqDiff, Nat.reduceLeDiff, Nat.reduceLT, qJ, qK, qL, qM, qN, qO, qP, qQ, qR, zI, qS, qC, qT, evSlice0, qV, qW, qX, qY, qZ, zJ, zK, zL, wit, Option.isSome_some, qH, xK, evPre, St.with, zD, Array.size, toldV, isIntV, orArr, offB, effFr, effFr2, effFr3, mapIn, restSame, sameO, eqW, eqWL, pickR, te, einl, inls, efr]
      exact ⟨(), by rw [List.any_append, hi]; simp; omega⟩
theorem c21 (zs : List Int) (hl : zs.length ≤ 1000000) : (orcω E X0).call 21 [.sl false (zs.map vI), .clo 23 [] []] = some (.bool (zs.any fun z => decide (z < 0))) := by
  refine call_of rfl fn21 rfl ?_
  have k1 := c40 zs hl
  have e := idx_any (q := fun z : Int => decide (z < 0)) zs 0
  simp (maxSteps := 1000000) (implicitDefEqProofs := false) only [Try.ntmps21, Try.results21, efc21, k1, e, ss, sd, zH, qG, zF, zG, St.get, qE, qF, qB, zC, norm, look, zE, qA, qI, St.alloc, St.drop, zA, part, zB, depth, qD, ↓reduceIte, Nat.reduceBEq, Nat.reduceAdd, Nat.reduceSub, Nat.reduceMul, Nat.reduceEqDiff, Nat.reduceLeDiff, Nat.reduceLT, qJ, qK, qL, qM, qN, qO, qP, qQ, qR, zI, qS, qC, qT, evSlice0, qV, qW, qX, qY, qZ, zJ, zK, zL, wit, Option.isSome_some, qH, xK, evPre, St.with, zD, Array.size, toldV, isIntV, orArr, offB, effFr, effFr2, effFr3, mapIn, restSame, sameO, eqW, eqWL, pickR, te, einl, inls, efr]

theorem lotsE_at {l : List Lot} : ∀ {r : List Lot} {i k : Nat} (hk : k < r.length), (∀ j, (h : j < k) → lotE l (i + j) (r[j]'(by omega)) = 0) → lotE l (i + k) r[k] ≠ 0 → lotsE l i r = lotE l (i + k) r[k]
  | [], _, _, hk, _, _ => by cases hk
  | x :: r, i, 0, hk, _, h => by
    simp only [lotsE, List.getElem_cons_zero, Nat.add_zero] at h ⊢
    rw [if_pos h]
  | x :: r, i, k + 1, hk, h0, h => by
    have h1 := h0 0 (by omega)
    simp only [List.getElem_cons_zero, Nat.add_zero] at h1
    simp only [lotsE, h1, ne_eq, not_true_eq_false, if_false, List.getElem_cons_succ] at h ⊢
    rw [show i + (k + 1) = (i + 1) + k by omega] at h ⊢
    refine lotsE_at (by simpa using hk) (fun j hj => ?_) h
    have := h0 (j + 1) (by omega)
    simp only [List.getElem_cons_succ] at this
    rw [show i + (j + 1) = (i + 1) + j by omega] at this
    exact this

set_option maxHeartbeats 4000000 in
theorem c6 (l : List Lot) (hl : l.length ≤ 40) (hp : ∀ i, (h : i < l.length) → l[i].parts.length ≤ 20) : (orcω E X0).call 6 [encLots l] = some (.int .i64 (validE l)) := by
  refine call_of rfl fn6 rfl ?_
  unfold validE
  by_cases h1 : 24 < l.length
  · have p1 : (24 : Int) < l.length := by omega
    simp (maxSteps := 1000000) (implicitDefEqProofs := false) only [encLots, List.length_map, p1, h1, if_true, Try.ntmps6, Try.results6, efc6, fc6, ss, sd, zH, qG, zF, zG, St.get, qE, qF, qB, zC, norm, look, zE, qA, qI, St.alloc, St.drop, zA, part, zB, depth, qD, ↓reduceIte, Nat.reduceBEq, Nat.reduceAdd, Nat.reduceSub, Nat.reduceMul, Nat.reduceEqDiff, Nat.reduceLeDiff, Nat.reduceLT, qJ, qK, qL, qM, qN, qO, qP, qQ, qR, zI, qS, qC, qT, evSlice0, qV, qW, qX, qY, qZ, zJ, zK, zL, wit, Option.isSome_some, qH, xK, evPre, St.with, zD, Array.size, toldV, isIntV, orArr, offB, effFr, effFr2, effFr3, mapIn, restSame, sameO, eqW, eqWL, pickR, te, einl, inls, efr]
  have p1 : ¬ (24 : Int) < l.length := by omega
  rw [if_neg h1]
  have k1 := fun i hi => c20 l i hi hl (hp i hi)
  simp only [encLots] at k1
  simp (maxSteps := 1000000) (implicitDefEqProofs := false) only [encLots, List.length_map, p1, Try.ntmps6, Try.results6, efc6, fc6, ss, sd, zH, qG, zF, zG, St.get, qE, qF, qB, zC, norm, look, zE, qA, qI, St.alloc, St.drop, zA, part, zB, depth, qD, ↓reduceIte, Nat.reduceBEq, Nat.reduceAdd, Nat.reduceSub, Nat.reduceMul, Nat.reduceEqDiff, Nat.reduceLeDiff, Nat.reduceLT, qJ, qK, qL, qM, qN, qO, qP, qQ, qR, zI, qS, qC, qT, evSlice0, qV, qW, qX, qY, qZ, zJ, zK, zL, wit, Option.isSome_some, qH, xK, evPre, St.with, zD, Array.size, toldV, isIntV, orArr, offB, effFr, effFr2, effFr3, mapIn, restSame, sameO, eqW, eqWL, pickR, te, einl, inls, efr]
  generalize hr : loopAt _ _ _ _ _ _ = r; revert r
  refine loop_nat l.length (fun k _ => [(10, .int .i64 k)]) (fun _ _ => []) (fun k (_ : Unit) => ∀ j, (h : j < l.length) → j < k → lotE l j l[j] = 0) () (by omega) (by simp (maxSteps := 1000000) (implicitDefEqProofs := false) only [ss, sd, zH, qG, zF, zG, St.get, qE, qF, qB, zC, norm, look, zE, qA, qI, St.alloc, St.drop, zA, part, zB, depth, qD, ↓reduceIte, Nat.reduceBEq, Nat.reduceAdd, Nat.reduceSub, Nat.reduceMul, Nat.reduceEqDiff, Nat.reduceLeDiff, Nat.reduceLT, qJ, qK, qL, qM, qN, qO, qP, qQ, qR, zI, qS, qC, qT, evSlice0, qV, qW, qX, qY, qZ, zJ, zK, zL, wit, Option.isSome_some, qH, xK, evPre, St.with, zD, Array.size, toldV, isIntV, orArr, offB, effFr, effFr2, effFr3, mapIn, restSame, sameO, eqW, eqWL, pickR, te, einl, inls, efr]) (fun _ _ h => by omega) (fun _ hc => ?_) (fun k _ hc q1 q2 q3 => ?_)
  · have hs : Sane l := ⟨by omega, fun i hi => hc i hi hi⟩
    have e1 : lotsE l 0 l = 0 := lotsE_zero.2 fun j hj => by rw [Nat.zero_add]; exact hc j hj hj
    have k2 := c22 l hs
    rw [ints_map] at k2
    have k3 := c21 ((List.range l.length).map (leftF l)) (by simp; omega)
    rw [List.any_map] at k3
    rw [show ((fun z => decide (z < 0)) ∘ leftF l) = fun i => decide (leftF l i < 0) from rfl] at k3
    simp only [encLots] at k2
    rw [e1, if_neg (by simp)]
    cases hb : (List.range l.length).any fun i => decide (leftF l i < 0) with
    | true =>
      rw [hb] at k3
      rw [if_pos rfl]
      simp (maxSteps := 1000000) (implicitDefEqProofs := false) only [Int.lt_irrefl, k2, k3, Try.ntmps6, Try.results6, efc6, fc6, ss, sd, zH, qG, zF, zG, St.get, qE, qF, qB, zC, norm, look, zE, qA, qI, St.alloc, St.drop, zA, part, zB, depth, qD, ↓reduceIte, Nat.reduceBEq, Nat.reduceAdd, Nat.reduceSub, Nat.reduceMul, Nat.reduceEqDiff, Nat.reduceLeDiff, Nat.reduceLT, qJ, qK, qL, qM, qN, qO, qP, qQ, qR, zI, qS, qC, qT, evSlice0, qV, qW, qX, qY, qZ, zJ, zK, zL, wit, Option.isSome_some, qH, xK, evPre, St.with, zD, Array.size, toldV, isIntV, orArr, offB, effFr, effFr2, effFr3, mapIn, restSame, sameO, eqW, eqWL, pickR, te, einl, inls, efr]
    | false =>
      rw [hb] at k3
      rw [if_neg (by decide)]
      simp (maxSteps := 1000000) (implicitDefEqProofs := false) only [Int.lt_irrefl, k2, k3, Try.ntmps6, Try.results6, efc6, fc6, ss, sd, zH, qG, zF, zG, St.get, qE, qF, qB, zC, norm, look, zE, qA, qI, St.alloc, St.drop, zA, part, zB, depth, qD, ↓reduceIte, Nat.reduceBEq, Nat.reduceAdd, Nat.reduceSub, Nat.reduceMul, Nat.reduceEqDiff, Nat.reduceLeDiff, Nat.reduceLT, qJ, qK, qL, qM, qN, qO, qP, qQ, qR, zI, qS, qC, qT, evSlice0, qV, qW, qX, qY, qZ, zJ, zK, zL, wit, Option.isSome_some, qH, xK, evPre, St.with, zD, Array.size, toldV, isIntV, orArr, offB, effFr, effFr2, effFr3, mapIn, restSame, sameO, eqW, eqWL, pickR, te, einl, inls, efr]
  · have k2 := k1 k q1
    by_cases h0 : lotE l k l[k] = 0
    · have r0 := beqI h0
      simp (maxSteps := 1000000) (implicitDefEqProofs := false) only [q2, q3, k2, r0, ss, sd, zH, qG, zF, zG, St.get, qE, qF, qB, zC, norm, look, zE, qA, qI, St.alloc, St.drop, zA, part, zB, depth, qD, ↓reduceIte, Nat.reduceBEq, Nat.reduceAdd, Nat.reduceSub, Nat.reduceMul, Nat.reduceEqDiff, Nat.reduceLeDiff, Nat.reduceLT, qJ, qK, qL, qM, qN, qO, qP, qQ, qR, zI, qS, qC, qT, evSlice0, qV, qW, qX, qY, qZ, zJ, zK, zL, wit, Option.isSome_some, qH, xK, evPre, St.with, zD, Array.size, toldV, isIntV, orArr, offB, effFr, effFr2, effFr3, mapIn, restSame, sameO, eqW, eqWL, pickR, te, einl, inls, efr]
      refine ⟨(), fun j hj hjk => ?_⟩
      rcases Nat.lt_succ_iff_lt_or_eq.1 hjk with h | h
      · exact hc j hj h
      · subst h; exact h0
    · have r0 := bneI h0
      have e1 : lotsE l 0 l = lotE l k l[k] := by
        have := lotsE_at (l := l) (r := l) (i := 0) q1 (fun j hj => by rw [Nat.zero_add]; exact hc j (by omega) hj) (by rw [Nat.zero_add]; exact h0)
        rw [Nat.zero_add] at this
        exact this
      rw [e1]
      simp (maxSteps := 1000000) (implicitDefEqProofs := false) only [q2, q3, k2, r0, h0, ne_eq, not_false_eq_true, if_true, Try.ntmps6, Try.results6, efc6, fc6, ss, sd, zH, qG, zF, zG, St.get, qE, qF, qB, zC, norm, look, zE, qA, qI, St.alloc, St.drop, zA, part, zB, depth, qD, ↓reduceIte, Nat.reduceBEq, Nat.reduceAdd, Nat.reduceSub, Nat.reduceMul, Nat.reduceEqDiff, Nat.reduceLeDiff, Nat.reduceLT, qJ, qK, qL, qM, qN, qO, qP, qQ, qR, zI, qS, qC, qT, evSlice0, qV, qW, qX, qY, qZ, zJ, zK, zL, wit, Option.isSome_some, qH, xK, evPre, St.with, zD, Array.size, toldV, isIntV, orArr, offB, effFr, effFr2, effFr3, mapIn, restSame, sameO, eqW, eqWL, pickR, te, einl, inls, efr]

def longM (l : List Lot) : Bool := decide (40 < l.length) || l.any fun x => decide (20 < x.parts.length)
set_option maxHeartbeats 4000000 in
theorem c5 (l : List Lot) : (orcω E X0).call 5 [encLots l] = some (.bool (longM l)) := by
  refine call_of rfl fn5 rfl ?_
  unfold longM
  by_cases h1 : 40 < l.length
  · have p1 : (40 : Int) < l.length := by omega
    simp (maxSteps := 1000000) (implicitDefEqProofs := false) only [encLots, List.length_map, p1, h1, decide_true, Bool.true_or, Try.ntmps5, Try.results5, efc5, fc5, ss, sd, zH, qG, zF, zG, St.get, qE, qF, qB, zC, norm, look, zE, qA, qI, St.alloc, St.drop, zA, part, zB, depth, qD, ↓reduceIte, Nat.reduceBEq, Nat.reduceAdd, Nat.reduceSub, Nat.reduceMul, Nat.reduceEqDiff, Nat.reduceLeDiff, Nat.reduceLT, qJ, qK, qL, qM, qN, qO, qP, qQ, qR, zI, qS, qC, qT, evSlice0, qV, qW, qX, qY, qZ, zJ, zK, zL, wit, Option.isSome_some, qH, xK, evPre, St.with, zD, Array.size, toldV, isIntV, orArr, offB, effFr, effFr2, effFr3, mapIn, restSame, sameO, eqW, eqWL, pickR, te, einl, inls, efr]
  have p1 : ¬ (40 : Int) < l.length := by omega
  rw [decide_eq_false h1, Bool.false_or]
  simp (maxSteps := 1000000) (implicitDefEqProofs := false) only [encLots, List.length_map, p1, Try.ntmps5, Try.results5, efc5, fc5, ss, sd, zH, qG, zF, zG, St.get, qE, qF, qB, zC, norm, look, zE, qA, qI, St.alloc, St.drop, zA, part, zB, depth, qD, ↓reduceIte, Nat.reduceBEq, Nat.reduceAdd, Nat.reduceSub, Nat.reduceMul, Nat.reduceEqDiff, Nat.reduceLeDiff, Nat.reduceLT, qJ, qK, qL, qM, qN, qO, qP, qQ, qR, zI, qS, qC, qT, evSlice0, qV, qW, qX, qY, qZ, zJ, zK, zL, wit, Option.isSome_some, qH, xK, evPre, St.with, zD, Array.size, toldV, isIntV, orArr, offB, effFr, effFr2, effFr3, mapIn, restSame, sameO, eqW, eqWL, pickR, te, einl, inls, efr]
  generalize hr : loopAt _ _ _ _ _ _ = r; revert r
  refine loop_list l (fun pre _ => [(3, .int .i64 pre.length)]) (fun _ _ => []) (fun pre (_ : Unit) => pre.any (fun x => decide (20 < x.parts.length)) = false) () (by omega) (by simp (maxSteps := 1000000) (implicitDefEqProofs := false) only [ss, sd, zH, qG, zF, zG, St.get, qE, qF, qB, zC, norm, look, zE, qA, qI, St.alloc, St.drop, zA, part, zB, depth, qD, ↓reduceIte, Nat.reduceBEq, Nat.reduceAdd, Nat.reduceSub, Nat.reduceMul, Nat.reduceEqDiff, Nat.reduceLeDiff, Nat.reduceLT, qJ, qK, qL, qM, qN, qO, qP, qQ, qR, zI, qS, qC, qT, evSlice0, qV, qW, qX, qY, qZ, zJ, zK, zL, wit, Option.isSome_some, qH, xK, evPre, St.with, zD, Array.size, toldV, isIntV, orArr, offB, effFr, effFr2, effFr3, mapIn, restSame, sameO, eqW, eqWL, pickR, te, einl, inls, efr]) rfl (fun _ hi => ?_) (fun pre x post _ hq hi g1 g2 g3 g4 => ?_)
  · simp (maxSteps := 1000000) (implicitDefEqProofs := false) only [Int.lt_irrefl, hi, Try.ntmps5, Try.results5, efc5, fc5, List.length_map, ss, sd, zH, qG, zF, zG, St.get, qE, qF, qB, zC, norm, look, zE, qA, qI, St.alloc, St.drop, zA, part, zB, depth, qD, ↓reduceIte, Nat.reduceBEq, Nat.reduceAdd, Nat.reduceSub, Nat.reduceMul, Nat.reduceEqDiff, Nat.reduceLeDiff, Nat.reduceLT, qJ, qK, qL, qM, qN, qO, qP, qQ, qR, zI, qS, qC, qT, evSlice0, qV, qW, qX, qY, qZ, zJ, zK, zL, wit, Option.isSome_some, qH, xK, evPre, St.with, zD, Array.size, toldV, isIntV, orArr, offB, effFr, effFr2, effFr3, mapIn, restSame, sameO, eqW, eqWL, pickR, te, einl, inls, efr]
  · have e1 : (l.any fun x => decide (20 < x.parts.length)) = (decide (20 < x.parts.length) || post.any fun x => decide (20 < x.parts.length)) := by
      rw [hq, List.any_append, hi, List.any_cons, Bool.false_or]
    obtain ⟨k, m, ps⟩ := x
    dsimp only at e1
    by_cases h2 : 20 < ps.length
    · have p2 : (20 : Int) < ps.length := by omega
      rw [decide_eq_true h2, Bool.true_or] at e1
      simp (maxSteps := 1000000) (implicitDefEqProofs := false) only [g1, g2, g3, g4, p2, e1, encLot, Try.ntmps5, Try.results5, efc5, fc5, Int.natCast_nonneg, Int.toNat_natCast, List.getElem?_map, List.length_map, ss, sd, zH, qG, zF, zG, St.get, qE, qF, qB, zC, norm, look, zE, qA, qI, St.alloc, St.drop, zA, part, zB, depth, qD, ↓reduceIte, Nat.reduceBEq, Nat.reduceAdd, Nat.reduceSub, Nat.reduceMul, Nat.reduceEqDiff, Nat.reduceLeDiff, Nat.reduceLT, qJ, qK, qL, qM, qN, qO, qP, qQ, qR, zI, qS, qC, qT, evSlice0, qV, qW, qX, qY, qZ, zJ, zK, zL, wit, Option.isSome_some, qH, xK, evPre, St.with, zD, Array.size, toldV, isIntV, orArr, offB, effFr, effFr2, effFr3, mapIn, restSame, sameO, eqW, eqWL, pickR, te, einl, inls, efr]
    · have p2 : ¬ (20 : Int) < ps.length := by omega
      simp (maxSteps := 1000000) (implicitDefEqProofs := false) only [g1, g2, g3, g4, p2, encLot, Int.natCast_nonneg, Int.toNat_natCast, List.getElem?_map, List.length_map, ss, sd, zH, qG, zF, zG, St.get, qE, qF, qB, zC, norm, look, zE, qA, qI, St.alloc, St.drop, zA, part, zB, depth, qD, ↓reduceIte, Nat.reduceBEq, Nat.reduceAdd, Nat.reduceSub, Nat.reduceMul, Nat.reduceEqDiff, Nat.reduceLeDiff, Nat.reduceLT, qJ, qK, qL, qM, qN, qO, qP, qQ, qR, zI, qS, qC, qT, evSlice0, qV, qW, qX, qY, qZ, zJ, zK, zL, wit, Option.isSome_some, qH, xK, evPre, St.with, zD, Array.size, toldV, isIntV, orArr, offB, effFr, effFr2, effFr3, mapIn, restSame, sameO, eqW, eqWL, pickR, te, einl, inls, efr]
      exact ⟨(), by rw [List.any_append, hi]; simp; omega⟩

theorem lots_get {l : List Lot} {i : Nat} (hi : i < l.length) : (l.map encLot)[i]? = some (encLot l[i]) := by
  rw [List.getElem?_map, List.getElem?_eq_getElem hi]; rfl
structure Good (l : List Lot) : Prop where
  long : longM l = false
  valid : validE l = 0
section
variable {l : List Lot} (g : Good l)
include g
theorem Good.v : Valid l := valid_of g.valid
theorem Good.sane : Sane l := ⟨g.v.len, g.v.lots⟩
theorem Good.c6 : (orcω E X0).call 6 [encLots l] = some (.int .i64 0) := by
  have hl := g.long
  simp only [longM, Bool.or_eq_false_iff, decide_eq_false_iff_not] at hl
  have := F.c6 l (by omega) (fun i hi => by
    have h2 := hl.2
    rw [List.any_eq_false] at h2
    have := h2 l[i] (List.getElem_mem hi)
    simp only [decide_eq_true_eq] at this
    omega)
  rw [g.valid] at this
  exact this
set_option maxHeartbeats 4000000 in
theorem Good.c15 (is : List Int) (hi : ∀ i ∈ is, 0 ≤ i ∧ i < l.length) (hn : is.length ≤ 1000) : (orcω E X0).call 15 [encLots l, .sl false (is.map vI)] = some (.int .i64 0) := by
  refine call_of rfl fn15 rfl ?_
  have k1 := g.c6
  have b0 : (0 != (0 : Int)) = false := rfl
  simp only [encLots] at k1
  simp (maxSteps := 1000000) (implicitDefEqProofs := false) only [encLots, k1, bne_self_eq_false, Try.ntmps15, Try.results15, efc15, fc15, ss, sd, zH, qG, zF, zG, St.get, qE, qF, qB, zC, norm, look, zE, qA, qI, St.alloc, St.drop, zA, part, zB, depth, qD, ↓reduceIte, Nat.reduceBEq, Nat.reduceAdd, Nat.reduceSub, Nat.reduceMul, Nat.reduceEqDiff, Nat.reduceLeDiff, Nat.reduceLT, qJ, qK, qL, qM, qN, qO, qP, qQ, qR, zI, qS, qC, qT, evSlice0, qV, qW, qX, qY, qZ, zJ, zK, zL, wit, Option.isSome_some, qH, xK, evPre, St.with, zD, Array.size, toldV, isIntV, orArr, offB, effFr, effFr2, effFr3, mapIn, restSame, sameO, eqW, eqWL, pickR, te, einl, inls, efr]
  generalize hr : loopAt _ _ _ _ _ _ = r; revert r
  refine loop_list is (fun pre _ => [(15, .int .i64 pre.length)]) (fun _ _ => []) (fun _ (_ : Unit) => True) () (by omega) (by simp (maxSteps := 1000000) (implicitDefEqProofs := false) only [ss, sd, zH, qG, zF, zG, St.get, qE, qF, qB, zC, norm, look, zE, qA, qI, St.alloc, St.drop, zA, part, zB, depth, qD, ↓reduceIte, Nat.reduceBEq, Nat.reduceAdd, Nat.reduceSub, Nat.reduceMul, Nat.reduceEqDiff, Nat.reduceLeDiff, Nat.reduceLT, qJ, qK, qL, qM, qN, qO, qP, qQ, qR, zI, qS, qC, qT, evSlice0, qV, qW, qX, qY, qZ, zJ, zK, zL, wit, Option.isSome_some, qH, xK, evPre, St.with, zD, Array.size, toldV, isIntV, orArr, offB, effFr, effFr2, effFr3, mapIn, restSame, sameO, eqW, eqWL, pickR, te, einl, inls, efr]) trivial (fun _ _ => ?_) (fun pre x post _ hq _ g1 g2 g3 g4 => ?_)
  · simp (maxSteps := 1000000) (implicitDefEqProofs := false) only [Int.lt_irrefl, Try.ntmps15, Try.results15, efc15, fc15, List.length_map, ss, sd, zH, qG, zF, zG, St.get, qE, qF, qB, zC, norm, look, zE, qA, qI, St.alloc, St.drop, zA, part, zB, depth, qD, ↓reduceIte, Nat.reduceBEq, Nat.reduceAdd, Nat.reduceSub, Nat.reduceMul, Nat.reduceEqDiff, Nat.reduceLeDiff, Nat.reduceLT, qJ, qK, qL, qM, qN, qO, qP, qQ, qR, zI, qS, qC, qT, evSlice0, qV, qW, qX, qY, qZ, zJ, zK, zL, wit, Option.isSome_some, qH, xK, evPre, St.with, zD, Array.size, toldV, isIntV, orArr, offB, effFr, effFr2, effFr3, mapIn, restSame, sameO, eqW, eqWL, pickR, te, einl, inls, efr]
  · obtain ⟨h1, h2⟩ := hi x (by rw [hq]; simp)
    have p1 : ¬ x < 0 := by omega
    have p2 : ¬ (l.length : Int) ≤ x := by omega
    simp (maxSteps := 1000000) (implicitDefEqProofs := false) only [g1, g2, g3, g4, p1, p2, vI, Int.natCast_nonneg, Int.toNat_natCast, List.getElem?_map, List.length_map, ss, sd, zH, qG, zF, zG, St.get, qE, qF, qB, zC, norm, look, zE, qA, qI, St.alloc, St.drop, zA, part, zB, depth, qD, ↓reduceIte, Nat.reduceBEq, Nat.reduceAdd, Nat.reduceSub, Nat.reduceMul, Nat.reduceEqDiff, Nat.reduceLeDiff, Nat.reduceLT, qJ, qK, qL, qM, qN, qO, qP, qQ, qR, zI, qS, qC, qT, evSlice0, qV, qW, qX, qY, qZ, zJ, zK, zL, wit, Option.isSome_some, qH, xK, evPre, St.with, zD, Array.size, toldV, isIntV, orArr, offB, effFr, effFr2, effFr3, mapIn, restSame, sameO, eqW, eqWL, pickR, te, einl, inls, efr]
    (first | exact ⟨(), trivial⟩ | refine ⟨(), ?_, trivial⟩ | skip)
theorem Good.c11 (i : Nat) (hi : i < l.length) : (orcω E X0).call 11 [encLots l, .int .i64 (i : Nat)] = some (.tup [.int .i64 (leftF l i), .int .i64 0]) := by
  refine call_of rfl fn11 rfl ?_
  have k1 := g.c15 [(i : Int)] (by simp; omega) (by simp)
  have k2 := F.c22 l g.sane
  have g5 := ints_get (leftF l) hi
  have hi' : (i : Int) < l.length := by omega
  simp only [encLots, List.map_cons, List.map_nil, vI] at k1 k2
  simp (maxSteps := 1000000) (implicitDefEqProofs := false) only [encLots, k1, k2, g5, hi', ints_len, Int.natCast_nonneg, Int.toNat_natCast, bne_self_eq_false, Try.ntmps11, Try.results11, efc11, ss, sd, zH, qG, zF, zG, St.get, qE, qF, qB, zC, norm, look, zE, qA, qI, St.alloc, St.drop, zA, part, zB, depth, qD, ↓reduceIte, Nat.reduceBEq, Nat.reduceAdd, Nat.reduceSub, Nat.reduceMul, Nat.reduceEqDiff, Nat.reduceLeDiff, Nat.reduceLT, qJ, qK, qL, qM, qN, qO, qP, qQ, qR, zI, qS, qC, qT, evSlice0, qV, qW, qX, qY, qZ, zJ, zK, zL, wit, Option.isSome_some, qH, xK, evPre, St.with, zD, Array.size, toldV, isIntV, orArr, offB, effFr, effFr2, effFr3, mapIn, restSame, sameO, eqW, eqWL, pickR, te, einl, inls, efr]
  done
theorem Good.c12 (i : Nat) (hi : i < l.length) : (orcω E X0).call 12 [encLots l, .int .i64 (i : Nat)] = some (.tup [.int .i64 (lostM l[i]), .int .i64 0]) := by
  refine call_of rfl fn12 rfl ?_
  have k1 := g.c15 [(i : Int)] (by simp; omega) (by simp)
  have k2 := F.c27 l[i] (g.v.parts hi) (g.v.mass hi)
  have g5 := lots_get hi
  have hi' : (i : Int) < l.length := by omega
  generalize l[i] = x at *
  obtain ⟨k, m, ps⟩ := x
  simp only [encLots, encLot, List.map_cons, List.map_nil, vI] at k1 k2
  simp (maxSteps := 1000000) (implicitDefEqProofs := false) only [encLots, encLot, k1, k2, g5, hi', List.length_map, Int.natCast_nonneg, Int.toNat_natCast, bne_self_eq_false, Try.ntmps12, Try.results12, efc12, ss, sd, zH, qG, zF, zG, St.get, qE, qF, qB, zC, norm, look, zE, qA, qI, St.alloc, St.drop, zA, part, zB, depth, qD, ↓reduceIte, Nat.reduceBEq, Nat.reduceAdd, Nat.reduceSub, Nat.reduceMul, Nat.reduceEqDiff, Nat.reduceLeDiff, Nat.reduceLT, qJ, qK, qL, qM, qN, qO, qP, qQ, qR, zI, qS, qC, qT, evSlice0, qV, qW, qX, qY, qZ, zJ, zK, zL, wit, Option.isSome_some, qH, xK, evPre, St.with, zD, Array.size, toldV, isIntV, orArr, offB, effFr, effFr2, effFr3, mapIn, restSame, sameO, eqW, eqWL, pickR, te, einl, inls, efr]
  done
end
end Go.AM.F

