/-
Loads: their errors by themselves, as the reference finds them.
-/
import Derived.Test.YtbfgifolmpmagaaBCheckD
set_option linter.unusedVariables false
set_option linter.unusedSimpArgs false

namespace Go.AM.B
open Go Go.AM Go.Proofs

def byM (l : List Loft) (gs : List Goods) (x : Load) : Int :=
  if inB x.loft 0 (l.length - 1) = false then 5 else
  if (!inB x.start 0 60 || (!validHs x.heats || (x.goods.isEmpty || !isSetM x.goods gs.length))) = true then 1 else aloneM l gs (seeM l gs x)

theorem isSet_in {l : List Int} {n : Int} (h : isSetM l n = true) : ∀ x ∈ l, 0 ≤ x ∧ x < n := set_in h

theorem okT90 : okCode (Try.f90.body.getD .skip) = true := by decide +kernel

set_option maxRecDepth 20000 in
set_option maxHeartbeats 8000000 in
theorem c90 (l : List Loft) (gs : List Goods) (x : Load) (hl : ∀ f ∈ l, loftOk f = true) (hg : ∀ g ∈ gs, goodsOk g = true) (hn : l.length ≤ 1000000) (hm : gs.length ≤ 1000000)
    (h4 : x.heats.length ≤ 1000) (h6 : x.goods.length ≤ 1000000) : (orcω E X0).call 90 [.sl false (l.map encL), .sl false (gs.map encG), encLd x] = some (.int .i64 (byM l gs x)) := by
  refine call_of rfl fn90 rfl ?_
  have hok := okT90
  simp only [Try.f90, Option.getD_some, okCode, Bool.and_eq_true, Bool.and_true, Bool.true_and] at hok
  obtain ⟨hk1, hk2, hk3⟩ := hok
  unfold byM
  cases c1 : inB x.loft 0 (l.length - 1) with
  | false =>
    by_cases d1 : x.loft < 0
    · simp (maxSteps := 1000000) (implicitDefEqProofs := false) only [Try.ntmps90, Try.results90, efc90, fc90, d1, encLd, ↓reduceIte, evRegion_st hk1, evRegion_st hk2, evRegion_st hk3, ss, List.replicate, zH, qG, zF, zG, St.eval, St.put, St.get, constV, List.set, lenV, qE, qF, qB, zC, norm, xQ, look, xP, xX, zO, zM, zE, zN, qA, qI, St.alloc, St.drop, killL, kill, xU, xV, zA, upd, cells?, part, retag, xT, putIn, refFree, xR, isNew, xS, Ty.isAgg, zB, idsL, ids, idsLL, reach, depth, St.dropL, qD, resultV, ↓reduceIte, Nat.reduceBEq, Nat.reduceAdd, Nat.reduceSub, Nat.reduceMul, Nat.reduceEqDiff, Nat.reduceLeDiff, Nat.reduceLT, qJ, qK, zV, zW, qL, qM, qN, qO, Eff.ap, qP, qQ, xW, qR, zI, onto, dropO, xA, sized, zP, eqT, eqG, minV, evUn, qS, zQ, zR, zS, qC, qT, upO, evSlice0, optInt, xC, qV, xD, del, xB, plain, plainL, zY, zZ, zT, qW, zU, zX, xY, qX, qY, qZ, xE, zJ, zK, zL, xF, xG, wit, xH, Option.isSome_some, xI, qH, xJ, evPre, St.with, xK, xL, zD, xM, xN, xO, Array.size, te, einl, inls, efr]
    · have d2 : ¬ x.loft < l.length := fun d => by simp [inB] at c1; omega
      have d3 : (l.length : Int) ≤ x.loft := by omega
      simp (maxSteps := 1000000) (implicitDefEqProofs := false) only [Try.ntmps90, Try.results90, efc90, fc90, d1, d2, d3, encLd, ↓reduceIte, List.length_map, evRegion_st hk1, evRegion_st hk2, evRegion_st hk3, ss, List.replicate, zH, qG, zF, zG, St.eval, St.put, St.get, constV, List.set, lenV, qE, qF, qB, zC, norm, xQ, look, xP, xX, zO, zM, zE, zN, qA, qI, St.alloc, St.drop, killL, kill, xU, xV, zA, upd, cells?, part, retag, xT, putIn, refFree, xR, isNew, xS, Ty.isAgg, zB, idsL, ids, idsLL, reach, depth, St.dropL, qD, resultV, ↓reduceIte, Nat.reduceBEq, Nat.reduceAdd, Nat.reduceSub, Nat.reduceMul, Nat.reduceEqDiff, Nat.reduceLeDiff, Nat.reduceLT, qJ, qK, zV, zW, qL, qM, qN, qO, Eff.ap, qP, qQ, xW, qR, zI, onto, dropO, xA, sized, zP, eqT, eqG, minV, evUn, qS, zQ, zR, zS, qC, qT, upO, evSlice0, optInt, xC, qV, xD, del, xB, plain, plainL, zY, zZ, zT, qW, zU, zX, xY, qX, qY, qZ, xE, zJ, zK, zL, xF, xG, wit, xH, Option.isSome_some, xI, qH, xJ, evPre, St.with, xK, xL, zD, xM, xN, xO, Array.size, te, einl, inls, efr]
  | true =>
  have h1 := inB_iff.1 c1
  have d1 : ¬ x.loft < 0 := by omega
  have d2 : x.loft < l.length := by omega
  have d3 : ¬ (l.length : Int) ≤ x.loft := by omega
  have k59 := c59 x.start 0 60
  have k29 := c29 x.heats
  have k118 := c118 x.goods gs.length (by omega) (by omega)
  cases c2 : inB x.start 0 60 with
  | false =>
    rw [c2] at k59
    simp (maxSteps := 1000000) (implicitDefEqProofs := false) only [Try.ntmps90, Try.results90, efc90, fc90, d1, d2, d3, k59, encLd, ↓reduceIte, List.length_map, Bool.not_false, Bool.true_or, Bool.true_eq_false, evRegion_st hk1, evRegion_st hk2, evRegion_st hk3, ss, List.replicate, zH, qG, zF, zG, St.eval, St.put, St.get, constV, List.set, lenV, qE, qF, qB, zC, norm, xQ, look, xP, xX, zO, zM, zE, zN, qA, qI, St.alloc, St.drop, killL, kill, xU, xV, zA, upd, cells?, part, retag, xT, putIn, refFree, xR, isNew, xS, Ty.isAgg, zB, idsL, ids, idsLL, reach, depth, St.dropL, qD, resultV, ↓reduceIte, Nat.reduceBEq, Nat.reduceAdd, Nat.reduceSub, Nat.reduceMul, Nat.reduceEqDiff, Nat.reduceLeDiff, Nat.reduceLT, qJ, qK, zV, zW, qL, qM, qN, qO, Eff.ap, qP, qQ, xW, qR, zI, onto, dropO, xA, sized, zP, eqT, eqG, minV, evUn, qS, zQ, zR, zS, qC, qT, upO, evSlice0, optInt, xC, qV, xD, del, xB, plain, plainL, zY, zZ, zT, qW, zU, zX, xY, qX, qY, qZ, xE, zJ, zK, zL, xF, xG, wit, xH, Option.isSome_some, xI, qH, xJ, evPre, St.with, xK, xL, zD, xM, xN, xO, Array.size, te, einl, inls, efr]
  | true =>
  rw [c2] at k59
  cases c3 : validHs x.heats with
  | false =>
    rw [c3] at k29
    simp (maxSteps := 1000000) (implicitDefEqProofs := false) only [Try.ntmps90, Try.results90, efc90, fc90, d1, d2, d3, k59, k29, encLd, ↓reduceIte, List.length_map, Bool.not_false, Bool.not_true, Bool.false_or, Bool.true_or, Bool.true_eq_false, evRegion_st hk1, evRegion_st hk2, evRegion_st hk3, ss, List.replicate, zH, qG, zF, zG, St.eval, St.put, St.get, constV, List.set, lenV, qE, qF, qB, zC, norm, xQ, look, xP, xX, zO, zM, zE, zN, qA, qI, St.alloc, St.drop, killL, kill, xU, xV, zA, upd, cells?, part, retag, xT, putIn, refFree, xR, isNew, xS, Ty.isAgg, zB, idsL, ids, idsLL, reach, depth, St.dropL, qD, resultV, ↓reduceIte, Nat.reduceBEq, Nat.reduceAdd, Nat.reduceSub, Nat.reduceMul, Nat.reduceEqDiff, Nat.reduceLeDiff, Nat.reduceLT, qJ, qK, zV, zW, qL, qM, qN, qO, Eff.ap, qP, qQ, xW, qR, zI, onto, dropO, xA, sized, zP, eqT, eqG, minV, evUn, qS, zQ, zR, zS, qC, qT, upO, evSlice0, optInt, xC, qV, xD, del, xB, plain, plainL, zY, zZ, zT, qW, zU, zX, xY, qX, qY, qZ, xE, zJ, zK, zL, xF, xG, wit, xH, Option.isSome_some, xI, qH, xJ, evPre, St.with, xK, xL, zD, xM, xN, xO, Array.size, te, einl, inls, efr]
  | true =>
  rw [c3] at k29
  cases c4 : x.goods.isEmpty with
  | true =>
    have d4 : x.goods.length = 0 := by simpa using c4
    simp (maxSteps := 1000000) (implicitDefEqProofs := false) only [Try.ntmps90, Try.results90, efc90, fc90, d1, d2, d3, d4, k59, k29, encLd, ↓reduceIte, List.length_map, Int.natCast_zero, BEq.rfl, Bool.not_false, Bool.not_true, Bool.false_or, Bool.true_or, Bool.true_eq_false, evRegion_st hk1, evRegion_st hk2, evRegion_st hk3, ss, List.replicate, zH, qG, zF, zG, St.eval, St.put, St.get, constV, List.set, lenV, qE, qF, qB, zC, norm, xQ, look, xP, xX, zO, zM, zE, zN, qA, qI, St.alloc, St.drop, killL, kill, xU, xV, zA, upd, cells?, part, retag, xT, putIn, refFree, xR, isNew, xS, Ty.isAgg, zB, idsL, ids, idsLL, reach, depth, St.dropL, qD, resultV, ↓reduceIte, Nat.reduceBEq, Nat.reduceAdd, Nat.reduceSub, Nat.reduceMul, Nat.reduceEqDiff, Nat.reduceLeDiff, Nat.reduceLT, qJ, qK, zV, zW, qL, qM, qN, qO, Eff.ap, qP, qQ, xW, qR, zI, onto, dropO, xA, sized, zP, eqT, eqG, minV, evUn, qS, zQ, zR, zS, qC, qT, upO, evSlice0, optInt, xC, qV, xD, del, xB, plain, plainL, zY, zZ, zT, qW, zU, zX, xY, qX, qY, qZ, xE, zJ, zK, zL, xF, xG, wit, xH, Option.isSome_some, xI, qH, xJ, evPre, St.with, xK, xL, zD, xM, xN, xO, Array.size, te, einl, inls, efr]
  | false =>
  have d4 : ((x.goods.length : Int) == 0) = false := by
    cases hq : x.goods with
    | nil => rw [hq] at c4; simp at c4
    | cons a b => simp; omega
  cases c5 : isSetM x.goods gs.length with
  | false =>
    rw [c5] at k118
    simp (maxSteps := 1000000) (implicitDefEqProofs := false) only [Try.ntmps90, Try.results90, efc90, fc90, d1, d2, d3, d4, k59, k29, k118, encLd, ↓reduceIte, List.length_map, Bool.not_false, Bool.not_true, Bool.false_or, Bool.true_or, Bool.true_eq_false, evRegion_st hk1, evRegion_st hk2, evRegion_st hk3, ss, List.replicate, zH, qG, zF, zG, St.eval, St.put, St.get, constV, List.set, lenV, qE, qF, qB, zC, norm, xQ, look, xP, xX, zO, zM, zE, zN, qA, qI, St.alloc, St.drop, killL, kill, xU, xV, zA, upd, cells?, part, retag, xT, putIn, refFree, xR, isNew, xS, Ty.isAgg, zB, idsL, ids, idsLL, reach, depth, St.dropL, qD, resultV, ↓reduceIte, Nat.reduceBEq, Nat.reduceAdd, Nat.reduceSub, Nat.reduceMul, Nat.reduceEqDiff, Nat.reduceLeDiff, Nat.reduceLT, qJ, qK, zV, zW, qL, qM, qN, qO, Eff.ap, qP, qQ, xW, qR, zI, onto, dropO, xA, sized, zP, eqT, eqG, minV, evUn, qS, zQ, zR, zS, qC, qT, upO, evSlice0, optInt, xC, qV, xD, del, xB, plain, plainL, zY, zZ, zT, qW, zU, zX, xY, qX, qY, qZ, xE, zJ, zK, zL, xF, xG, wit, xH, Option.isSome_some, xI, qH, xJ, evPre, St.with, xK, xL, zD, xM, xN, xO, Array.size, te, einl, inls, efr]
  | true =>
  rw [c5] at k118
  have hs := isSet_in c5
  have h3 : heatsFrom 0 x.heats = true := by unfold validHs at c3; rw [Bool.and_eq_true] at c3; exact c3.2
  have e1 := loftAt_get h1.1 d2
  have hf : loftOk (loftAt l x.loft) = true := hl _ (List.mem_of_getElem? e1)
  have k119 := c119 gs x.goods hg hs h6
  have h2 := inB_iff.1 c2
  have k63 := c63 (loftAt l x.loft) x.heats hf h3 h4
  have k93 := c93 x (by omega)
  unfold encL at k63
  unfold encLd at k93
  have z0 : (!true || (!true || (false || !true))) = false := rfl
  rw [z0]
  unfold aloneM seeM
  simp only [Bool.true_eq_false, if_false, Bool.false_eq_true]
  by_cases p1 : (loftAt l x.loft).poles < polesM gs x.goods
  · simp (maxSteps := 1000000) (implicitDefEqProofs := false) only [Try.ntmps90, Try.results90, efc90, fc90, d1, d2, d3, d4, h1.1, e1, p1, k59, k29, k118, k119, encLd, encL, ↓reduceIte, Int.natCast_nonneg, Int.toNat_natCast, List.getElem?_map, List.length_map, Bool.not_false, Bool.not_true, Bool.false_or, Bool.true_or, Bool.true_eq_false, evRegion_st hk1, evRegion_st hk2, evRegion_st hk3, ss, List.replicate, zH, qG, zF, zG, St.eval, St.put, St.get, constV, List.set, lenV, qE, qF, qB, zC, norm, xQ, look, xP, xX, zO, zM, zE, zN, qA, qI, St.alloc, St.drop, killL, kill, xU, xV, zA, upd, cells?, part, retag, xT, putIn, refFree, xR, isNew, xS, Ty.isAgg, zB, idsL, ids, idsLL, reach, depth, St.dropL, qD, resultV, ↓reduceIte, Nat.reduceBEq, Nat.reduceAdd, Nat.reduceSub, Nat.reduceMul, Nat.reduceEqDiff, Nat.reduceLeDiff, Nat.reduceLT, qJ, qK, zV, zW, qL, qM, qN, qO, Eff.ap, qP, qQ, xW, qR, zI, onto, dropO, xA, sized, zP, eqT, eqG, minV, evUn, qS, zQ, zR, zS, qC, qT, upO, evSlice0, optInt, xC, qV, xD, del, xB, plain, plainL, zY, zZ, zT, qW, zU, zX, xY, qX, qY, qZ, xE, zJ, zK, zL, xF, xG, wit, xH, Option.isSome_some, xI, qH, xJ, evPre, St.with, xK, xL, zD, xM, xN, xO, Array.size, te, einl, inls, efr]
  · simp (maxSteps := 1000000) (implicitDefEqProofs := false) only [Try.ntmps90, Try.results90, efc90, fc90, d1, d2, d3, d4, h1.1, e1, p1, k59, k29, k118, k119, encLd, encL, ↓reduceIte, Int.natCast_nonneg, Int.toNat_natCast, List.getElem?_map, List.length_map, Bool.not_false, Bool.not_true, Bool.false_or, Bool.true_or, Bool.true_eq_false, evRegion_st hk1, evRegion_st hk2, evRegion_st hk3, ss, List.replicate, zH, qG, zF, zG, St.eval, St.put, St.get, constV, List.set, lenV, qE, qF, qB, zC, norm, xQ, look, xP, xX, zO, zM, zE, zN, qA, qI, St.alloc, St.drop, killL, kill, xU, xV, zA, upd, cells?, part, retag, xT, putIn, refFree, xR, isNew, xS, Ty.isAgg, zB, idsL, ids, idsLL, reach, depth, St.dropL, qD, resultV, ↓reduceIte, Nat.reduceBEq, Nat.reduceAdd, Nat.reduceSub, Nat.reduceMul, Nat.reduceEqDiff, Nat.reduceLeDiff, Nat.reduceLT, qJ, qK, zV, zW, qL, qM, qN, qO, Eff.ap, qP, qQ, xW, qR, zI, onto, dropO, xA, sized, zP, eqT, eqG, minV, evUn, qS, zQ, zR, zS, qC, qT, upO, evSlice0, optInt, xC, qV, xD, del, xB, plain, plainL, zY, zZ, zT, qW, zU, zX, xY, qX, qY, qZ, xE, zJ, zK, zL, xF, xG, wit, xH, Option.isSome_some, xI, qH, xJ, evPre, St.with, xK, xL, zD, xM, xN, xO, Array.size, te, einl, inls, efr]
    generalize hr : loopAt _ _ _ _ _ _ = r; revert r
    refine loop_list x.goods (fun pre _ => [(8, .bool (pre.any fun n => decide (x.start < (goodAt gs n).ready))), (9, .bool (pre.any fun n => !inB (warmM (loftAt l x.loft) x.heats) (goodAt gs n).need (goodAt gs n).most)), (10, .bool (pre.any fun n => decide ((goodAt gs n).due < endM x))), (11, .int .i64 pre.length)]) (fun _ _ => []) (fun _ (_ : Unit) => True) () (by omega) (by simp (maxSteps := 1000000) (implicitDefEqProofs := false) only [List.any_nil, ss, List.replicate, zH, qG, zF, zG, St.eval, St.put, St.get, constV, List.set, lenV, qE, qF, qB, zC, norm, xQ, look, xP, xX, zO, zM, zE, zN, qA, qI, St.alloc, St.drop, killL, kill, xU, xV, zA, upd, cells?, part, retag, xT, putIn, refFree, xR, isNew, xS, Ty.isAgg, zB, idsL, ids, idsLL, reach, depth, St.dropL, qD, resultV, ↓reduceIte, Nat.reduceBEq, Nat.reduceAdd, Nat.reduceSub, Nat.reduceMul, Nat.reduceEqDiff, Nat.reduceLeDiff, Nat.reduceLT, qJ, qK, zV, zW, qL, qM, qN, qO, Eff.ap, qP, qQ, xW, qR, zI, onto, dropO, xA, sized, zP, eqT, eqG, minV, evUn, qS, zQ, zR, zS, qC, qT, upO, evSlice0, optInt, xC, qV, xD, del, xB, plain, plainL, zY, zZ, zT, qW, zU, zX, xY, qX, qY, qZ, xE, zJ, zK, zL, xF, xG, wit, xH, Option.isSome_some, xI, qH, xJ, evPre, St.with, xK, xL, zD, xM, xN, xO, Array.size, te, einl, inls, efr]) trivial (fun _ _ => ?_) (fun pre n post _ hq _ g1 g2 g3 g4 => ?_)
    · cases f1 : (x.goods.any fun n => decide (x.start < (goodAt gs n).ready)) <;> cases f2 : (x.goods.any fun n => !inB (warmM (loftAt l x.loft) x.heats) (goodAt gs n).need (goodAt gs n).most) <;> cases f3 : (x.goods.any fun n => decide ((goodAt gs n).due < endM x)) <;>
        simp (maxSteps := 1000000) (implicitDefEqProofs := false) only [Int.lt_irrefl, f1, f2, f3, Try.ntmps90, Try.results90, efc90, fc90, Int.natCast_nonneg, List.length_map, Bool.false_eq_true, ↓reduceIte, ss, List.replicate, zH, qG, zF, zG, St.eval, St.put, St.get, constV, List.set, lenV, qE, qF, qB, zC, norm, xQ, look, xP, xX, zO, zM, zE, zN, qA, qI, St.alloc, St.drop, killL, kill, xU, xV, zA, upd, cells?, part, retag, xT, putIn, refFree, xR, isNew, xS, Ty.isAgg, zB, idsL, ids, idsLL, reach, depth, St.dropL, qD, resultV, ↓reduceIte, Nat.reduceBEq, Nat.reduceAdd, Nat.reduceSub, Nat.reduceMul, Nat.reduceEqDiff, Nat.reduceLeDiff, Nat.reduceLT, qJ, qK, zV, zW, qL, qM, qN, qO, Eff.ap, qP, qQ, xW, qR, zI, onto, dropO, xA, sized, zP, eqT, eqG, minV, evUn, qS, zQ, zR, zS, qC, qT, upO, evSlice0, optInt, xC, qV, xD, del, xB, plain, plainL, zY, zZ, zT, qW, zU, zX, xY, qX, qY, qZ, xE, zJ, zK, zL, xF, xG, wit, xH, Option.isSome_some, xI, qH, xJ, evPre, St.with, xK, xL, zD, xM, xN, xO, Array.size, te, einl, inls, efr]
    · have hx := hs n (List.mem_of_getElem? g3)
      have g5 := goodAt_get hx.1 hx.2
      have k59b := c59 (warmM (loftAt l x.loft) x.heats) (goodAt gs n).need (goodAt gs n).most
      simp only [List.any_append, List.any_cons, List.any_nil, Bool.or_false]
      generalize (pre.any fun n => decide (x.start < (goodAt gs n).ready)) = P1
      generalize (pre.any fun n => !inB (warmM (loftAt l x.loft) x.heats) (goodAt gs n).need (goodAt gs n).most) = P2
      generalize (pre.any fun n => decide ((goodAt gs n).due < endM x)) = P3
      cases P1 <;> cases P2 <;> cases P3 <;> by_cases b1 : x.start < (goodAt gs n).ready <;> cases b2 : inB (warmM (loftAt l x.loft) x.heats) (goodAt gs n).need (goodAt gs n).most <;> by_cases b3 : (goodAt gs n).due < endM x <;> rw [b2] at k59b <;>
        (simp (maxSteps := 1000000) (implicitDefEqProofs := false) only [g1, g2, g3, g4, g5, hx.1, hx.2, b1, b2, b3, k59b, k63, k93, encLd, encL, encG, vI_def, ↓reduceIte, Int.natCast_nonneg, Int.toNat_natCast, List.getElem?_map, List.length_map, Bool.not_false, Bool.not_true, Bool.false_or, Bool.true_or, Bool.or_true, Bool.or_false, Bool.true_eq_false, decide_true, decide_false, evRegion_st hk1, evRegion_st hk2, evRegion_st hk3, ss, List.replicate, zH, qG, zF, zG, St.eval, St.put, St.get, constV, List.set, lenV, qE, qF, qB, zC, norm, xQ, look, xP, xX, zO, zM, zE, zN, qA, qI, St.alloc, St.drop, killL, kill, xU, xV, zA, upd, cells?, part, retag, xT, putIn, refFree, xR, isNew, xS, Ty.isAgg, zB, idsL, ids, idsLL, reach, depth, St.dropL, qD, resultV, ↓reduceIte, Nat.reduceBEq, Nat.reduceAdd, Nat.reduceSub, Nat.reduceMul, Nat.reduceEqDiff, Nat.reduceLeDiff, Nat.reduceLT, qJ, qK, zV, zW, qL, qM, qN, qO, Eff.ap, qP, qQ, xW, qR, zI, onto, dropO, xA, sized, zP, eqT, eqG, minV, evUn, qS, zQ, zR, zS, qC, qT, upO, evSlice0, optInt, xC, qV, xD, del, xB, plain, plainL, zY, zZ, zT, qW, zU, zX, xY, qX, qY, qZ, xE, zJ, zK, zL, xF, xG, wit, xH, Option.isSome_some, xI, qH, xJ, evPre, St.with, xK, xL, zD, xM, xN, xO, Array.size, te, einl, inls, efr]; exact ⟨(), trivial⟩)
end Go.AM.B

