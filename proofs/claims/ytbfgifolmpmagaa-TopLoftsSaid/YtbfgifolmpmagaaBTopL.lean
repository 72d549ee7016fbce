/-
TopLofts: sets of any length, and a plan's check without bounds.
-/
import Derived.Test.YtbfgifolmpmagaaBLaw14
set_option linter.unusedVariables false
set_option linter.unusedSimpArgs false

namespace Go.AM.B
open Go Go.AM Go.Proofs

set_option maxHeartbeats 8000000 in
theorem c84w (l : List Int) (n : Int) (hn : 0 ≤ n ∧ n ≤ 1000000) : (orcω E X0).call 84 [.sl false (l.map vI), .int .i64 n] = some (.bool (isSetM l n)) := by
  refine call_of rfl fn84 rfl ?_
  unfold isSetM
  simp (maxSteps := 1000000) (implicitDefEqProofs := false) only [Try.ntmps84, Try.results84, efc84, fc84, ss, List.replicate, zH, qG, zF, zG, St.eval, St.put, St.get, constV, List.set, lenV, qE, qF, qB, zC, norm, xQ, look, xP, xX, zO, zM, zE, zN, qA, qI, St.alloc, St.drop, killL, kill, xU, xV, zA, upd, cells?, part, retag, xT, putIn, refFree, xR, isNew, xS, Ty.isAgg, zB, idsL, ids, idsLL, reach, depth, St.dropL, qD, resultV, ↓reduceIte, Nat.reduceBEq, Nat.reduceAdd, Nat.reduceSub, Nat.reduceMul, Nat.reduceEqDiff, Nat.reduceLeDiff, Nat.reduceLT, qJ, qK, zV, zW, qL, qM, qN, qO, Eff.ap, qP, qQ, xW, qR, zI, onto, dropO, xA, sized, zP, eqT, eqG, minV, evUn, qS, zQ, zR, zS, qC, qT, upO, evSlice0, optInt, xC, qV, xD, del, xB, plain, plainL, zY, zZ, zT, qW, zU, zX, xY, qX, qY, qZ, xE, zJ, zK, zL, xF, xG, wit, xH, Option.isSome_some, xI, qH, xJ, evPre, St.with, xK, xL, zD, xM, xN, xO, Array.size, te, einl, inls, efr]
  generalize hr : loopAt _ _ _ _ _ _ = r; revert r
  refine loop_inv (ι := { p : List Int × List Int // l = p.1 ++ p.2 ∧ setFrom n (-1) p.1 = true }) (fun p => [(9, .int .i64 p.1.1.length)]) (fun _ => []) (fun p => p.1.2.length) ⟨([], l), rfl, rfl⟩ (by simp (maxSteps := 1000000) (implicitDefEqProofs := false) only [ss, List.replicate, zH, qG, zF, zG, St.eval, St.put, St.get, constV, List.set, lenV, qE, qF, qB, zC, norm, xQ, look, xP, xX, zO, zM, zE, zN, qA, qI, St.alloc, St.drop, killL, kill, xU, xV, zA, upd, cells?, part, retag, xT, putIn, refFree, xR, isNew, xS, Ty.isAgg, zB, idsL, ids, idsLL, reach, depth, St.dropL, qD, resultV, ↓reduceIte, Nat.reduceBEq, Nat.reduceAdd, Nat.reduceSub, Nat.reduceMul, Nat.reduceEqDiff, Nat.reduceLeDiff, Nat.reduceLT, qJ, qK, zV, zW, qL, qM, qN, qO, Eff.ap, qP, qQ, xW, qR, zI, onto, dropO, xA, sized, zP, eqT, eqG, minV, evUn, qS, zQ, zR, zS, qC, qT, upO, evSlice0, optInt, xC, qV, xD, del, xB, plain, plainL, zY, zZ, zT, qW, zU, zX, xY, qX, qY, qZ, xE, zJ, zK, zL, xF, xG, wit, xH, Option.isSome_some, xI, qH, xJ, evPre, St.with, xK, xL, zD, xM, xN, xO, Array.size, te, einl, inls, efr]) ?_
  rintro ⟨⟨pre, post⟩, hp, hi⟩
  dsimp only at hp hi ⊢
  have hlen : pre.length ≤ 1000000 := by
    have := isSet_len (n := n.toNat) (l := pre) (by rw [show ((n.toNat : Nat) : Int) = n by omega]; exact hi)
    omega
  match post, hp with
  | [], hp =>
    rw [List.append_nil] at hp
    subst hp
    simp (maxSteps := 1000000) (implicitDefEqProofs := false) only [Int.lt_irrefl, hi, Try.ntmps84, Try.results84, efc84, fc84, List.length_map, ss, List.replicate, zH, qG, zF, zG, St.eval, St.put, St.get, constV, List.set, lenV, qE, qF, qB, zC, norm, xQ, look, xP, xX, zO, zM, zE, zN, qA, qI, St.alloc, St.drop, killL, kill, xU, xV, zA, upd, cells?, part, retag, xT, putIn, refFree, xR, isNew, xS, Ty.isAgg, zB, idsL, ids, idsLL, reach, depth, St.dropL, qD, resultV, ↓reduceIte, Nat.reduceBEq, Nat.reduceAdd, Nat.reduceSub, Nat.reduceMul, Nat.reduceEqDiff, Nat.reduceLeDiff, Nat.reduceLT, qJ, qK, zV, zW, qL, qM, qN, qO, Eff.ap, qP, qQ, xW, qR, zI, onto, dropO, xA, sized, zP, eqT, eqG, minV, evUn, qS, zQ, zR, zS, qC, qT, upO, evSlice0, optInt, xC, qV, xD, del, xB, plain, plainL, zY, zZ, zT, qW, zU, zX, xY, qX, qY, qZ, xE, zJ, zK, zL, xF, xG, wit, xH, Option.isSome_some, xI, qH, xJ, evPre, St.with, xK, xL, zD, xM, xN, xO, Array.size, te, einl, inls, efr]
  | x :: post, hp =>
    have g2 : pre.length < l.length := by rw [hp]; simp
    have g1 : (pre.length : Int) < l.length := by omega
    have g3 : l[pre.length]? = some x := by rw [hp]; simp
    have g4 : IntKind.i64.wrap ((pre.length : Int) + 1) = ((pre ++ [x]).length : Int) := by rw [wrap_in (by omega)]; simp
    have g6 : setFrom n (-1) l = (inB x 0 (n - 1) && decide (pre.getLastD (-1) < x) && setFrom n x post) := by rw [hp, set_split, hi]; rfl
    have g7 : setFrom n (-1) (pre ++ [x]) = (inB x 0 (n - 1) && decide (pre.getLastD (-1) < x)) := by rw [set_split, hi]; simp [setFrom]
    have w0 : IntKind.i64.wrap (n - 1) = n - 1 := wrap_in (by omega)
    have k1 := c58 x 0 (n - 1)
    cases h1 : inB x 0 (n - 1) with
    | false => simp (maxSteps := 1000000) (implicitDefEqProofs := false) only [g1, g2, g3, g4, g6, k1, h1, w0, vI_def, Bool.false_and, Try.ntmps84, Try.results84, efc84, fc84, Int.natCast_nonneg, Int.toNat_natCast, List.getElem?_map, List.length_map, ss, List.replicate, zH, qG, zF, zG, St.eval, St.put, St.get, constV, List.set, lenV, qE, qF, qB, zC, norm, xQ, look, xP, xX, zO, zM, zE, zN, qA, qI, St.alloc, St.drop, killL, kill, xU, xV, zA, upd, cells?, part, retag, xT, putIn, refFree, xR, isNew, xS, Ty.isAgg, zB, idsL, ids, idsLL, reach, depth, St.dropL, qD, resultV, ↓reduceIte, Nat.reduceBEq, Nat.reduceAdd, Nat.reduceSub, Nat.reduceMul, Nat.reduceEqDiff, Nat.reduceLeDiff, Nat.reduceLT, qJ, qK, zV, zW, qL, qM, qN, qO, Eff.ap, qP, qQ, xW, qR, zI, onto, dropO, xA, sized, zP, eqT, eqG, minV, evUn, qS, zQ, zR, zS, qC, qT, upO, evSlice0, optInt, xC, qV, xD, del, xB, plain, plainL, zY, zZ, zT, qW, zU, zX, xY, qX, qY, qZ, xE, zJ, zK, zL, xF, xG, wit, xH, Option.isSome_some, xI, qH, xJ, evPre, St.with, xK, xL, zD, xM, xN, xO, Array.size, te, einl, inls, efr]
    | true =>
    rw [h1] at g7
    have hx := inB_iff.1 h1
    rcases snoc_cases pre with rfl | ⟨q, y, rfl⟩
    · have z1 : ¬ (0 : Int) < 0 := by decide
      simp only [List.length_nil, Int.natCast_zero] at g1 g2 g3 g4
      have g8 : decide (([] : List Int).getLastD (-1) < x) = true := decide_eq_true (show (-1 : Int) < x by omega)
      rw [g8] at g7
      simp (maxSteps := 1000000) (implicitDefEqProofs := false) only [g1, g2, g3, g4, z1, k1, h1, w0, vI_def, List.length_nil, Int.natCast_zero, Int.reduceToNat, Int.le_refl, Int.natCast_nonneg, Int.toNat_natCast, List.getElem?_map, List.length_map, ss, List.replicate, zH, qG, zF, zG, St.eval, St.put, St.get, constV, List.set, lenV, qE, qF, qB, zC, norm, xQ, look, xP, xX, zO, zM, zE, zN, qA, qI, St.alloc, St.drop, killL, kill, xU, xV, zA, upd, cells?, part, retag, xT, putIn, refFree, xR, isNew, xS, Ty.isAgg, zB, idsL, ids, idsLL, reach, depth, St.dropL, qD, resultV, ↓reduceIte, Nat.reduceBEq, Nat.reduceAdd, Nat.reduceSub, Nat.reduceMul, Nat.reduceEqDiff, Nat.reduceLeDiff, Nat.reduceLT, qJ, qK, zV, zW, qL, qM, qN, qO, Eff.ap, qP, qQ, xW, qR, zI, onto, dropO, xA, sized, zP, eqT, eqG, minV, evUn, qS, zQ, zR, zS, qC, qT, upO, evSlice0, optInt, xC, qV, xD, del, xB, plain, plainL, zY, zZ, zT, qW, zU, zX, xY, qX, qY, qZ, xE, zJ, zK, zL, xF, xG, wit, xH, Option.isSome_some, xI, qH, xJ, evPre, St.with, xK, xL, zD, xM, xN, xO, Array.size, te, einl, inls, efr]
      exact ⟨⟨([] ++ [x], post), by dsimp only; rw [hp]; simp, g7⟩, rfl, by dsimp only; simp⟩
    · have z1 : (0 : Int) < ((q ++ [y]).length : Int) := by simp <;> omega
      have z2 : IntKind.i64.wrap (((q ++ [y]).length : Int) - 1) = (q.length : Int) := by rw [wrap_in (by omega)]; simp
      have z3 : l[q.length]? = some y := by rw [hp]; simp
      have z4 : (q.length : Int) < l.length := by simp at g1; omega
      have z5 : q.length < l.length := by omega
      have z6 : (q ++ [y]).getLastD (-1) = y := by simp
      rw [z6] at g6 g7
      generalize q ++ [y] = pre at *
      by_cases c : x ≤ y
      · have d : decide (y < x) = false := by simpa using c
        rw [d] at g6
        simp (maxSteps := 1000000) (implicitDefEqProofs := false) only [g1, g2, g3, g4, g6, h1, z1, z2, z3, z4, z5, c, k1, h1, w0, vI_def, Bool.and_false, Bool.false_and, Try.ntmps84, Try.results84, efc84, fc84, Int.natCast_nonneg, Int.toNat_natCast, List.getElem?_map, List.length_map, ss, List.replicate, zH, qG, zF, zG, St.eval, St.put, St.get, constV, List.set, lenV, qE, qF, qB, zC, norm, xQ, look, xP, xX, zO, zM, zE, zN, qA, qI, St.alloc, St.drop, killL, kill, xU, xV, zA, upd, cells?, part, retag, xT, putIn, refFree, xR, isNew, xS, Ty.isAgg, zB, idsL, ids, idsLL, reach, depth, St.dropL, qD, resultV, ↓reduceIte, Nat.reduceBEq, Nat.reduceAdd, Nat.reduceSub, Nat.reduceMul, Nat.reduceEqDiff, Nat.reduceLeDiff, Nat.reduceLT, qJ, qK, zV, zW, qL, qM, qN, qO, Eff.ap, qP, qQ, xW, qR, zI, onto, dropO, xA, sized, zP, eqT, eqG, minV, evUn, qS, zQ, zR, zS, qC, qT, upO, evSlice0, optInt, xC, qV, xD, del, xB, plain, plainL, zY, zZ, zT, qW, zU, zX, xY, qX, qY, qZ, xE, zJ, zK, zL, xF, xG, wit, xH, Option.isSome_some, xI, qH, xJ, evPre, St.with, xK, xL, zD, xM, xN, xO, Array.size, te, einl, inls, efr]
      · have d : decide (y < x) = true := decide_eq_true (by omega)
        rw [d] at g7
        simp (maxSteps := 1000000) (implicitDefEqProofs := false) only [g1, g2, g3, g4, z1, z2, z3, z4, z5, c, k1, h1, w0, vI_def, Int.natCast_nonneg, Int.toNat_natCast, List.getElem?_map, List.length_map, ss, List.replicate, zH, qG, zF, zG, St.eval, St.put, St.get, constV, List.set, lenV, qE, qF, qB, zC, norm, xQ, look, xP, xX, zO, zM, zE, zN, qA, qI, St.alloc, St.drop, killL, kill, xU, xV, zA, upd, cells?, part, retag, xT, putIn, refFree, xR, isNew, xS, Ty.isAgg, zB, idsL, ids, idsLL, reach, depth, St.dropL, qD, resultV, ↓reduceIte, Nat.reduceBEq, Nat.reduceAdd, Nat.reduceSub, Nat.reduceMul, Nat.reduceEqDiff, Nat.reduceLeDiff, Nat.reduceLT, qJ, qK, zV, zW, qL, qM, qN, qO, Eff.ap, qP, qQ, xW, qR, zI, onto, dropO, xA, sized, zP, eqT, eqG, minV, evUn, qS, zQ, zR, zS, qC, qT, upO, evSlice0, optInt, xC, qV, xD, del, xB, plain, plainL, zY, zZ, zT, qW, zU, zX, xY, qX, qY, qZ, xE, zJ, zK, zL, xF, xG, wit, xH, Option.isSome_some, xI, qH, xJ, evPre, St.with, xK, xL, zD, xM, xN, xO, Array.size, te, einl, inls, efr]
        exact ⟨⟨(pre ++ [x], post), by dsimp only; rw [hp]; simp, g7⟩, rfl, by dsimp only; simp⟩

set_option maxRecDepth 20000 in
set_option maxHeartbeats 8000000 in
theorem c52w (l : List Loft) (gs : List Goods) (plan : List Load) (hn : l.length ≤ 1000000) (hm : gs.length ≤ 1000000) (hp : plan.length ≤ 1000000) : (orcω E X0).call 52 [.sl false (l.map encL), .sl false (gs.map encG), .sl false (plan.map encLd)] = some (.int .i64 (checkM l gs plan)) := by
  refine call_of rfl fn52 rfl ?_
  unfold checkM
  have k67 := c67 l gs (by omega)
  by_cases hb : bothE l gs = 0
  · rw [hb] at k67 ⊢
    obtain ⟨hl, hln, hg, hgn⟩ := both_facts hb
    have r1 : roomy gs.length 1 = true := by simp [roomy]; omega
    have r2 : (gs.length : Int) ≤ 4294967296 := by omega
    simp (maxSteps := 1000000) (implicitDefEqProofs := false) only [Try.ntmps52, Try.results52, efc52, fc52, k67, r1, r2, bne_self_eq_false, List.length_map, ne_eq, not_true_eq_false, if_false, Int.toNat_natCast, Int.natCast_nonneg, ss, List.replicate, zH, qG, zF, zG, St.eval, St.put, St.get, constV, List.set, lenV, qE, qF, qB, zC, norm, xQ, look, xP, xX, zO, zM, zE, zN, qA, qI, St.alloc, St.drop, killL, kill, xU, xV, zA, upd, cells?, part, retag, xT, putIn, refFree, xR, isNew, xS, Ty.isAgg, zB, idsL, ids, idsLL, reach, depth, St.dropL, qD, resultV, ↓reduceIte, Nat.reduceBEq, Nat.reduceAdd, Nat.reduceSub, Nat.reduceMul, Nat.reduceEqDiff, Nat.reduceLeDiff, Nat.reduceLT, qJ, qK, zV, zW, qL, qM, qN, qO, Eff.ap, qP, qQ, xW, qR, zI, onto, dropO, xA, sized, zP, eqT, eqG, minV, evUn, qS, zQ, zR, zS, qC, qT, upO, evSlice0, optInt, xC, qV, xD, del, xB, plain, plainL, zY, zZ, zT, qW, zU, zX, xY, qX, qY, qZ, xE, zJ, zK, zL, xF, xG, wit, xH, Option.isSome_some, xI, qH, xJ, evPre, St.with, xK, xL, zD, xM, xN, xO, Array.size, te, einl, inls, efr]
    generalize hr : loopAt _ _ _ _ _ _ = r; revert r
    refine loop_list plan (fun pre _ => [(8, .own 8 0 gs.length), (9, .own 9 0 pre.length), (29, .int .i64 pre.length)]) (fun pre _ => [(8, { es := 1, flat := true, t := true, app := true, elems := (doneB gs.length pre).map V.bool }), (9, { es := 7, flat := true, t := pre.isEmpty, app := true, elems := (pre.map (seeM l gs)).map encK })]) (fun pre (_ : Unit) => checkFrom l gs [] plan = checkFrom l gs pre (plan.drop pre.length)) () (by omega) (by simp (maxSteps := 1000000) (implicitDefEqProofs := false) only [List.map_nil, List.isEmpty_nil, done_nil, ss, List.replicate, zH, qG, zF, zG, St.eval, St.put, St.get, constV, List.set, lenV, qE, qF, qB, zC, norm, xQ, look, xP, xX, zO, zM, zE, zN, qA, qI, St.alloc, St.drop, killL, kill, xU, xV, zA, upd, cells?, part, retag, xT, putIn, refFree, xR, isNew, xS, Ty.isAgg, zB, idsL, ids, idsLL, reach, depth, St.dropL, qD, resultV, ↓reduceIte, Nat.reduceBEq, Nat.reduceAdd, Nat.reduceSub, Nat.reduceMul, Nat.reduceEqDiff, Nat.reduceLeDiff, Nat.reduceLT, qJ, qK, zV, zW, qL, qM, qN, qO, Eff.ap, qP, qQ, xW, qR, zI, onto, dropO, xA, sized, zP, eqT, eqG, minV, evUn, qS, zQ, zR, zS, qC, qT, upO, evSlice0, optInt, xC, qV, xD, del, xB, plain, plainL, zY, zZ, zT, qW, zU, zX, xY, qX, qY, qZ, xE, zJ, zK, zL, xF, xG, wit, xH, Option.isSome_some, xI, qH, xJ, evPre, St.with, xK, xL, zD, xM, xN, xO, Array.size, te, einl, inls, efr]) rfl (fun _ hi => ?_) (fun pre x post _ hq hi g1 g2 g3 g4 => ?_)
    · have k89 := c89 (doneB gs.length plan) (by rw [done_len]; omega)
      have tk : ((doneB gs.length plan).map V.bool).take gs.length = (doneB gs.length plan).map V.bool := List.take_of_length_le (by simp [done_len])
      rw [done_any] at k89
      rw [List.drop_length, checkFrom] at hi
      cases hz : (List.range gs.length).any (fun (i : Nat) => !loadedM plan i) with
      | true =>
        rw [hz] at k89 hi
        rw [if_pos rfl] at hi
        simp (maxSteps := 1000000) (implicitDefEqProofs := false) only [Int.lt_irrefl, List.length_map, k89, hi, tk, done_len, Try.ntmps52, Try.results52, efc52, fc52, ss, List.replicate, zH, qG, zF, zG, St.eval, St.put, St.get, constV, List.set, lenV, qE, qF, qB, zC, norm, xQ, look, xP, xX, zO, zM, zE, zN, qA, qI, St.alloc, St.drop, killL, kill, xU, xV, zA, upd, cells?, part, retag, xT, putIn, refFree, xR, isNew, xS, Ty.isAgg, zB, idsL, ids, idsLL, reach, depth, St.dropL, qD, resultV, ↓reduceIte, Nat.reduceBEq, Nat.reduceAdd, Nat.reduceSub, Nat.reduceMul, Nat.reduceEqDiff, Nat.reduceLeDiff, Nat.reduceLT, qJ, qK, zV, zW, qL, qM, qN, qO, Eff.ap, qP, qQ, xW, qR, zI, onto, dropO, xA, sized, zP, eqT, eqG, minV, evUn, qS, zQ, zR, zS, qC, qT, upO, evSlice0, optInt, xC, qV, xD, del, xB, plain, plainL, zY, zZ, zT, qW, zU, zX, xY, qX, qY, qZ, xE, zJ, zK, zL, xF, xG, wit, xH, Option.isSome_some, xI, qH, xJ, evPre, St.with, xK, xL, zD, xM, xN, xO, Array.size, te, einl, inls, efr]
      | false =>
        rw [hz] at k89 hi
        rw [if_neg (by decide)] at hi
        simp (maxSteps := 1000000) (implicitDefEqProofs := false) only [Int.lt_irrefl, List.length_map, k89, hi, tk, done_len, Try.ntmps52, Try.results52, efc52, fc52, ss, List.replicate, zH, qG, zF, zG, St.eval, St.put, St.get, constV, List.set, lenV, qE, qF, qB, zC, norm, xQ, look, xP, xX, zO, zM, zE, zN, qA, qI, St.alloc, St.drop, killL, kill, xU, xV, zA, upd, cells?, part, retag, xT, putIn, refFree, xR, isNew, xS, Ty.isAgg, zB, idsL, ids, idsLL, reach, depth, St.dropL, qD, resultV, ↓reduceIte, Nat.reduceBEq, Nat.reduceAdd, Nat.reduceSub, Nat.reduceMul, Nat.reduceEqDiff, Nat.reduceLeDiff, Nat.reduceLT, qJ, qK, zV, zW, qL, qM, qN, qO, Eff.ap, qP, qQ, xW, qR, zI, onto, dropO, xA, sized, zP, eqT, eqG, minV, evUn, qS, zQ, zR, zS, qC, qT, upO, evSlice0, optInt, xC, qV, xD, del, xB, plain, plainL, zY, zZ, zT, qW, zU, zX, xY, qX, qY, qZ, xE, zJ, zK, zL, xF, xG, wit, xH, Option.isSome_some, xI, qH, xJ, evPre, St.with, xK, xL, zD, xM, xN, xO, Array.size, te, einl, inls, efr]
    · have hd : plan.drop pre.length = x :: post := by rw [hq]; simp
      have hx := List.mem_of_getElem? g3
      rw [hd, checkFrom] at hi
      have w0 : IntKind.i64.wrap ((l.length : Int) - 1) = l.length - 1 := wrap_in (by omega)
      have k58 := c58 x.loft 0 (l.length - 1)
      have k58b := c58 x.start 0 60
      have k28 := c28 x.heats
      have k84 := c84w x.goods gs.length (by omega)
      cases c1 : inB x.loft 0 (l.length - 1) with
      | false =>
        have e : byM l gs x = 5 := by unfold byM; rw [c1]; rfl
        rw [e, if_pos (by decide)] at hi
        rw [c1] at k58
        simp (maxSteps := 1000000) (implicitDefEqProofs := false) only [g1, g2, g3, g4, hi, k58, w0, Try.ntmps52, Try.results52, efc52, fc52, encLd, Int.natCast_nonneg, Int.toNat_natCast, List.getElem?_map, List.length_map, Bool.not_false, ss, List.replicate, zH, qG, zF, zG, St.eval, St.put, St.get, constV, List.set, lenV, qE, qF, qB, zC, norm, xQ, look, xP, xX, zO, zM, zE, zN, qA, qI, St.alloc, St.drop, killL, kill, xU, xV, zA, upd, cells?, part, retag, xT, putIn, refFree, xR, isNew, xS, Ty.isAgg, zB, idsL, ids, idsLL, reach, depth, St.dropL, qD, resultV, ↓reduceIte, Nat.reduceBEq, Nat.reduceAdd, Nat.reduceSub, Nat.reduceMul, Nat.reduceEqDiff, Nat.reduceLeDiff, Nat.reduceLT, qJ, qK, zV, zW, qL, qM, qN, qO, Eff.ap, qP, qQ, xW, qR, zI, onto, dropO, xA, sized, zP, eqT, eqG, minV, evUn, qS, zQ, zR, zS, qC, qT, upO, evSlice0, optInt, xC, qV, xD, del, xB, plain, plainL, zY, zZ, zT, qW, zU, zX, xY, qX, qY, qZ, xE, zJ, zK, zL, xF, xG, wit, xH, Option.isSome_some, xI, qH, xJ, evPre, St.with, xK, xL, zD, xM, xN, xO, Array.size, te, einl, inls, efr]
      | true =>
      rw [c1] at k58
      have h1 := inB_iff.1 c1
      cases c2 : (!inB x.start 0 60 || (!validHs x.heats || (x.goods.isEmpty || !isSetM x.goods gs.length))) with
      | true =>
        have e : byM l gs x = 1 := by unfold byM; rw [c1, c2]; rfl
        rw [e, if_pos (by decide)] at hi
        cases q1 : inB x.start 0 60 with
        | false =>
          rw [q1] at k58b
          simp (maxSteps := 1000000) (implicitDefEqProofs := false) only [g1, g2, g3, g4, hi, k58, k58b, w0, Try.ntmps52, Try.results52, efc52, fc52, encLd, Int.natCast_nonneg, Int.toNat_natCast, List.getElem?_map, List.length_map, Bool.not_false, Bool.not_true, ss, List.replicate, zH, qG, zF, zG, St.eval, St.put, St.get, constV, List.set, lenV, qE, qF, qB, zC, norm, xQ, look, xP, xX, zO, zM, zE, zN, qA, qI, St.alloc, St.drop, killL, kill, xU, xV, zA, upd, cells?, part, retag, xT, putIn, refFree, xR, isNew, xS, Ty.isAgg, zB, idsL, ids, idsLL, reach, depth, St.dropL, qD, resultV, ↓reduceIte, Nat.reduceBEq, Nat.reduceAdd, Nat.reduceSub, Nat.reduceMul, Nat.reduceEqDiff, Nat.reduceLeDiff, Nat.reduceLT, qJ, qK, zV, zW, qL, qM, qN, qO, Eff.ap, qP, qQ, xW, qR, zI, onto, dropO, xA, sized, zP, eqT, eqG, minV, evUn, qS, zQ, zR, zS, qC, qT, upO, evSlice0, optInt, xC, qV, xD, del, xB, plain, plainL, zY, zZ, zT, qW, zU, zX, xY, qX, qY, qZ, xE, zJ, zK, zL, xF, xG, wit, xH, Option.isSome_some, xI, qH, xJ, evPre, St.with, xK, xL, zD, xM, xN, xO, Array.size, te, einl, inls, efr]
        | true =>
        rw [q1] at k58b
        cases q2 : validHs x.heats with
        | false =>
          rw [q2] at k28
          simp (maxSteps := 1000000) (implicitDefEqProofs := false) only [g1, g2, g3, g4, hi, k58, k58b, k28, w0, Try.ntmps52, Try.results52, efc52, fc52, encLd, Int.natCast_nonneg, Int.toNat_natCast, List.getElem?_map, List.length_map, Bool.not_false, Bool.not_true, ss, List.replicate, zH, qG, zF, zG, St.eval, St.put, St.get, constV, List.set, lenV, qE, qF, qB, zC, norm, xQ, look, xP, xX, zO, zM, zE, zN, qA, qI, St.alloc, St.drop, killL, kill, xU, xV, zA, upd, cells?, part, retag, xT, putIn, refFree, xR, isNew, xS, Ty.isAgg, zB, idsL, ids, idsLL, reach, depth, St.dropL, qD, resultV, ↓reduceIte, Nat.reduceBEq, Nat.reduceAdd, Nat.reduceSub, Nat.reduceMul, Nat.reduceEqDiff, Nat.reduceLeDiff, Nat.reduceLT, qJ, qK, zV, zW, qL, qM, qN, qO, Eff.ap, qP, qQ, xW, qR, zI, onto, dropO, xA, sized, zP, eqT, eqG, minV, evUn, qS, zQ, zR, zS, qC, qT, upO, evSlice0, optInt, xC, qV, xD, del, xB, plain, plainL, zY, zZ, zT, qW, zU, zX, xY, qX, qY, qZ, xE, zJ, zK, zL, xF, xG, wit, xH, Option.isSome_some, xI, qH, xJ, evPre, St.with, xK, xL, zD, xM, xN, xO, Array.size, te, einl, inls, efr]
        | true =>
        rw [q2] at k28
        cases q3 : x.goods.isEmpty with
        | true =>
          have d4 : x.goods.length = 0 := by simpa using q3
          simp (maxSteps := 1000000) (implicitDefEqProofs := false) only [g1, g2, g3, g4, hi, d4, k58, k58b, k28, w0, Try.ntmps52, Try.results52, efc52, fc52, encLd, Int.natCast_zero, BEq.rfl, Int.natCast_nonneg, Int.toNat_natCast, List.getElem?_map, List.length_map, Bool.not_false, Bool.not_true, ss, List.replicate, zH, qG, zF, zG, St.eval, St.put, St.get, constV, List.set, lenV, qE, qF, qB, zC, norm, xQ, look, xP, xX, zO, zM, zE, zN, qA, qI, St.alloc, St.drop, killL, kill, xU, xV, zA, upd, cells?, part, retag, xT, putIn, refFree, xR, isNew, xS, Ty.isAgg, zB, idsL, ids, idsLL, reach, depth, St.dropL, qD, resultV, ↓reduceIte, Nat.reduceBEq, Nat.reduceAdd, Nat.reduceSub, Nat.reduceMul, Nat.reduceEqDiff, Nat.reduceLeDiff, Nat.reduceLT, qJ, qK, zV, zW, qL, qM, qN, qO, Eff.ap, qP, qQ, xW, qR, zI, onto, dropO, xA, sized, zP, eqT, eqG, minV, evUn, qS, zQ, zR, zS, qC, qT, upO, evSlice0, optInt, xC, qV, xD, del, xB, plain, plainL, zY, zZ, zT, qW, zU, zX, xY, qX, qY, qZ, xE, zJ, zK, zL, xF, xG, wit, xH, Option.isSome_some, xI, qH, xJ, evPre, St.with, xK, xL, zD, xM, xN, xO, Array.size, te, einl, inls, efr]
        | false =>
        have d4 : ((x.goods.length : Int) == 0) = false := by
          cases hq : x.goods with
          | nil => rw [hq] at q3; simp at q3
          | cons a b => simp; omega
        cases q4 : isSetM x.goods gs.length with
        | true => rw [q1, q2, q3, q4] at c2; cases c2
        | false =>
          rw [q4] at k84
          simp (maxSteps := 1000000) (implicitDefEqProofs := false) only [g1, g2, g3, g4, hi, d4, k58, k58b, k28, k84, w0, Try.ntmps52, Try.results52, efc52, fc52, encLd, Int.natCast_nonneg, Int.toNat_natCast, List.getElem?_map, List.length_map, Bool.not_false, Bool.not_true, ss, List.replicate, zH, qG, zF, zG, St.eval, St.put, St.get, constV, List.set, lenV, qE, qF, qB, zC, norm, xQ, look, xP, xX, zO, zM, zE, zN, qA, qI, St.alloc, St.drop, killL, kill, xU, xV, zA, upd, cells?, part, retag, xT, putIn, refFree, xR, isNew, xS, Ty.isAgg, zB, idsL, ids, idsLL, reach, depth, St.dropL, qD, resultV, ↓reduceIte, Nat.reduceBEq, Nat.reduceAdd, Nat.reduceSub, Nat.reduceMul, Nat.reduceEqDiff, Nat.reduceLeDiff, Nat.reduceLT, qJ, qK, zV, zW, qL, qM, qN, qO, Eff.ap, qP, qQ, xW, qR, zI, onto, dropO, xA, sized, zP, eqT, eqG, minV, evUn, qS, zQ, zR, zS, qC, qT, upO, evSlice0, optInt, xC, qV, xD, del, xB, plain, plainL, zY, zZ, zT, qW, zU, zX, xY, qX, qY, qZ, xE, zJ, zK, zL, xF, xG, wit, xH, Option.isSome_some, xI, qH, xJ, evPre, St.with, xK, xL, zD, xM, xN, xO, Array.size, te, einl, inls, efr]
      | false =>
      have e : byM l gs x = aloneM l gs (seeM l gs x) := by unfold byM; rw [c1, c2]; rfl
      simp only [Bool.or_eq_false_iff, Bool.not_eq_false'] at c2
      obtain ⟨q1, q2, q3, q4⟩ := c2
      have hs := isSet_in q4
      have h4 : x.heats.length ≤ 1000 := by have := (validHs_iff.1 q2).1; omega
      have h6 : x.goods.length ≤ 1000000 := by have := isSet_len q4; omega
      have h2 := inB_iff.1 q1
      have h3 : heatsFrom 0 x.heats = true := by unfold validHs at q2; rw [Bool.and_eq_true] at q2; exact q2.2
      have k85 := c85 l gs x hl hg (by omega) (by omega) h3 h4 hs h6
      have k86 := c86 l gs (seeM l gs x) (by show 0 ≤ x.loft ∧ x.loft < _; omega) hs h6
      have d4 : ((x.goods.length : Int) == 0) = false := by
        cases hq : x.goods with
        | nil => rw [hq] at q3; simp at q3
        | cons a b => simp; omega
      rw [q1] at k58b
      rw [q2] at k28
      rw [q4] at k84
      rw [e] at hi
      have e2 : (pre.map (seeM l gs)).map encK ++ [encK (seeM l gs x)] = ((pre ++ [x]).map (seeM l gs)).map encK := by simp
      have k87 := c87 (seeM l gs x) (pre.map (seeM l gs)) (by have := congrArg List.length hq; simp at this ⊢; omega)
      generalize seeM l gs x = K at *
      unfold encK kCells at k85 k86
      unfold encLd at k85
      by_cases hA : aloneM l gs K = 0
      · rw [hA] at k86 hi
        rw [if_neg (by simp)] at hi
        simp (maxSteps := 1000000) (implicitDefEqProofs := false) only [g1, g2, g3, g4, d4, k58, k58b, k28, k84, k85, k86, w0, Try.ntmps52, Try.results52, efc52, fc52, encLd, bne_self_eq_false, Int.natCast_nonneg, Int.toNat_natCast, List.getElem?_map, List.length_map, Bool.not_false, Bool.not_true, ss, List.replicate, zH, qG, zF, zG, St.eval, St.put, St.get, constV, List.set, lenV, qE, qF, qB, zC, norm, xQ, look, xP, xX, zO, zM, zE, zN, qA, qI, St.alloc, St.drop, killL, kill, xU, xV, zA, upd, cells?, part, retag, xT, putIn, refFree, xR, isNew, xS, Ty.isAgg, zB, idsL, ids, idsLL, reach, depth, St.dropL, qD, resultV, ↓reduceIte, Nat.reduceBEq, Nat.reduceAdd, Nat.reduceSub, Nat.reduceMul, Nat.reduceEqDiff, Nat.reduceLeDiff, Nat.reduceLT, qJ, qK, zV, zW, qL, qM, qN, qO, Eff.ap, qP, qQ, xW, qR, zI, onto, dropO, xA, sized, zP, eqT, eqG, minV, evUn, qS, zQ, zR, zS, qC, qT, upO, evSlice0, optInt, xC, qV, xD, del, xB, plain, plainL, zY, zZ, zT, qW, zU, zX, xY, qX, qY, qZ, xE, zJ, zK, zL, xF, xG, wit, xH, Option.isSome_some, xI, qH, xJ, evPre, St.with, xK, xL, zD, xM, xN, xO, Array.size, te, einl, inls, efr]
        generalize hr : loopAt _ _ _ _ _ _ = r; revert r
        refine loop_list x.goods (fun pre2 _ => [(78, .int .i64 pre2.length)]) (fun _ _ => []) (fun pre2 (_ : Unit) => pre2.any (loadedM pre) = false) () (by omega) (by simp (maxSteps := 1000000) (implicitDefEqProofs := false) only [ss, List.replicate, zH, qG, zF, zG, St.eval, St.put, St.get, constV, List.set, lenV, qE, qF, qB, zC, norm, xQ, look, xP, xX, zO, zM, zE, zN, qA, qI, St.alloc, St.drop, killL, kill, xU, xV, zA, upd, cells?, part, retag, xT, putIn, refFree, xR, isNew, xS, Ty.isAgg, zB, idsL, ids, idsLL, reach, depth, St.dropL, qD, resultV, ↓reduceIte, Nat.reduceBEq, Nat.reduceAdd, Nat.reduceSub, Nat.reduceMul, Nat.reduceEqDiff, Nat.reduceLeDiff, Nat.reduceLT, qJ, qK, zV, zW, qL, qM, qN, qO, Eff.ap, qP, qQ, xW, qR, zI, onto, dropO, xA, sized, zP, eqT, eqG, minV, evUn, qS, zQ, zR, zS, qC, qT, upO, evSlice0, optInt, xC, qV, xD, del, xB, plain, plainL, zY, zZ, zT, qW, zU, zX, xY, qX, qY, qZ, xE, zJ, zK, zL, xF, xG, wit, xH, Option.isSome_some, xI, qH, xJ, evPre, St.with, xK, xL, zD, xM, xN, xO, Array.size, te, einl, inls, efr]) rfl (fun _ hf => ?_) (fun pre2 n post2 _ hq2 hf y1 y2 y3 y4 => ?_)
        · rw [hf, if_neg (by decide)] at hi
          have tk9 : ((pre.map (seeM l gs)).map encK).take pre.length = (pre.map (seeM l gs)).map encK := List.take_of_length_le (by simp)
          have k87' : (orcω E X0).call 87 [.sl false ((pre.map (seeM l gs)).map encK), .clo 88 [.agg (kCells K)] []] = some (.bool ((pre.map (seeM l gs)).any (meetsK K))) := k87
          unfold kCells at k87'
          cases f2 : (pre.map (seeM l gs)).any (meetsK K) with
          | true =>
            rw [f2] at k87' hi
            rw [if_pos rfl] at hi
            simp (maxSteps := 1000000) (implicitDefEqProofs := false) only [Int.lt_irrefl, hi, k87', tk9, Try.ntmps52, Try.results52, efc52, fc52, Int.natCast_nonneg, Int.toNat_natCast, List.getElem?_map, List.length_map, ss, List.replicate, zH, qG, zF, zG, St.eval, St.put, St.get, constV, List.set, lenV, qE, qF, qB, zC, norm, xQ, look, xP, xX, zO, zM, zE, zN, qA, qI, St.alloc, St.drop, killL, kill, xU, xV, zA, upd, cells?, part, retag, xT, putIn, refFree, xR, isNew, xS, Ty.isAgg, zB, idsL, ids, idsLL, reach, depth, St.dropL, qD, resultV, ↓reduceIte, Nat.reduceBEq, Nat.reduceAdd, Nat.reduceSub, Nat.reduceMul, Nat.reduceEqDiff, Nat.reduceLeDiff, Nat.reduceLT, qJ, qK, zV, zW, qL, qM, qN, qO, Eff.ap, qP, qQ, xW, qR, zI, onto, dropO, xA, sized, zP, eqT, eqG, minV, evUn, qS, zQ, zR, zS, qC, qT, upO, evSlice0, optInt, xC, qV, xD, del, xB, plain, plainL, zY, zZ, zT, qW, zU, zX, xY, qX, qY, qZ, xE, zJ, zK, zL, xF, xG, wit, xH, Option.isSome_some, xI, qH, xJ, evPre, St.with, xK, xL, zD, xM, xN, xO, Array.size, te, einl, inls, efr]
          | false =>
            rw [f2] at k87' hi
            rw [if_neg (by decide)] at hi
            simp (maxSteps := 1000000) (implicitDefEqProofs := false) only [Int.lt_irrefl, k87', tk9, Int.natCast_nonneg, Int.toNat_natCast, List.getElem?_map, List.length_map, ss, List.replicate, zH, qG, zF, zG, St.eval, St.put, St.get, constV, List.set, lenV, qE, qF, qB, zC, norm, xQ, look, xP, xX, zO, zM, zE, zN, qA, qI, St.alloc, St.drop, killL, kill, xU, xV, zA, upd, cells?, part, retag, xT, putIn, refFree, xR, isNew, xS, Ty.isAgg, zB, idsL, ids, idsLL, reach, depth, St.dropL, qD, resultV, ↓reduceIte, Nat.reduceBEq, Nat.reduceAdd, Nat.reduceSub, Nat.reduceMul, Nat.reduceEqDiff, Nat.reduceLeDiff, Nat.reduceLT, qJ, qK, zV, zW, qL, qM, qN, qO, Eff.ap, qP, qQ, xW, qR, zI, onto, dropO, xA, sized, zP, eqT, eqG, minV, evUn, qS, zQ, zR, zS, qC, qT, upO, evSlice0, optInt, xC, qV, xD, del, xB, plain, plainL, zY, zZ, zT, qW, zU, zX, xY, qX, qY, qZ, xE, zJ, zK, zL, xF, xG, wit, xH, Option.isSome_some, xI, qH, xJ, evPre, St.with, xK, xL, zD, xM, xN, xO, Array.size, te, einl, inls, efr]
            generalize hr : loopAt _ _ _ _ _ _ = r; revert r
            refine loop_list x.goods (fun pre3 _ => [(94, .int .i64 pre3.length)]) (fun pre3 _ => [(8, { es := 1, flat := true, t := true, app := true, elems := (markB gs.length pre pre3).map V.bool })]) (fun _ (_ : Unit) => True) () (by omega) (by simp (maxSteps := 1000000) (implicitDefEqProofs := false) only [mark_nil, ss, List.replicate, zH, qG, zF, zG, St.eval, St.put, St.get, constV, List.set, lenV, qE, qF, qB, zC, norm, xQ, look, xP, xX, zO, zM, zE, zN, qA, qI, St.alloc, St.drop, killL, kill, xU, xV, zA, upd, cells?, part, retag, xT, putIn, refFree, xR, isNew, xS, Ty.isAgg, zB, idsL, ids, idsLL, reach, depth, St.dropL, qD, resultV, ↓reduceIte, Nat.reduceBEq, Nat.reduceAdd, Nat.reduceSub, Nat.reduceMul, Nat.reduceEqDiff, Nat.reduceLeDiff, Nat.reduceLT, qJ, qK, zV, zW, qL, qM, qN, qO, Eff.ap, qP, qQ, xW, qR, zI, onto, dropO, xA, sized, zP, eqT, eqG, minV, evUn, qS, zQ, zR, zS, qC, qT, upO, evSlice0, optInt, xC, qV, xD, del, xB, plain, plainL, zY, zZ, zT, qW, zU, zX, xY, qX, qY, qZ, xE, zJ, zK, zL, xF, xG, wit, xH, Option.isSome_some, xI, qH, xJ, evPre, St.with, xK, xL, zD, xM, xN, xO, Array.size, te, einl, inls, efr]) trivial (fun _ _ => ?_) (fun pre3 n post3 _ hq3 _ y1 y2 y3 y4 => ?_)
            · have hroom : roomy (pre.length + 1) 88 = true := by simp [roomy]; omega
              have hbig : pre.length + 1 ≤ 4294967296 := by omega
              have e2' : (pre.map (seeM l gs)).map encK ++ [.agg (kCells K)] = ((pre ++ [x]).map (seeM l gs)).map encK := e2
              unfold kCells at e2'
              have e3 : (pre ++ [x]).length = pre.length + 1 := by simp
              have e4 : (pre ++ [x]).isEmpty = false := by simp
              simp (maxSteps := 1000000) (implicitDefEqProofs := false) only [Int.lt_irrefl, g4, mark_all, hroom, hbig, e2', Int.natCast_nonneg, Int.toNat_natCast, List.getElem?_map, List.length_map, Bool.and_false, ss, List.replicate, zH, qG, zF, zG, St.eval, St.put, St.get, constV, List.set, lenV, qE, qF, qB, zC, norm, xQ, look, xP, xX, zO, zM, zE, zN, qA, qI, St.alloc, St.drop, killL, kill, xU, xV, zA, upd, cells?, part, retag, xT, putIn, refFree, xR, isNew, xS, Ty.isAgg, zB, idsL, ids, idsLL, reach, depth, St.dropL, qD, resultV, ↓reduceIte, Nat.reduceBEq, Nat.reduceAdd, Nat.reduceSub, Nat.reduceMul, Nat.reduceEqDiff, Nat.reduceLeDiff, Nat.reduceLT, qJ, qK, zV, zW, qL, qM, qN, qO, Eff.ap, qP, qQ, xW, qR, zI, onto, dropO, xA, sized, zP, eqT, eqG, minV, evUn, qS, zQ, zR, zS, qC, qT, upO, evSlice0, optInt, xC, qV, xD, del, xB, plain, plainL, zY, zZ, zT, qW, zU, zX, xY, qX, qY, qZ, xE, zJ, zK, zL, xF, xG, wit, xH, Option.isSome_some, xI, qH, xJ, evPre, St.with, xK, xL, zD, xM, xN, xO, Array.size, te, einl, inls, efr]
              have hd2 : plan.drop (pre.length + 1) = post := by
                rw [show pre.length + 1 = (pre ++ [x]).length from e3.symm, show plan = (pre ++ [x]) ++ post by rw [hq]; simp, List.drop_left]
              refine ⟨(), ?_⟩
              rw [e3, e4, hd2]
              exact ⟨rfl, hi⟩
            · have hz := hs n (List.mem_of_getElem? y3)
              have ms := mark_set (pre := pre) (ns := pre3) hz
              have mg := mark_get (pre := pre) (ns := pre3) hz
              simp (maxSteps := 1000000) (implicitDefEqProofs := false) only [y1, y2, y3, y4, hz.1, hz.2, ms, mg, vI_def, mark_len, Int.natCast_nonneg, Int.toNat_natCast, List.getElem?_map, List.length_map, ss, List.replicate, zH, qG, zF, zG, St.eval, St.put, St.get, constV, List.set, lenV, qE, qF, qB, zC, norm, xQ, look, xP, xX, zO, zM, zE, zN, qA, qI, St.alloc, St.drop, killL, kill, xU, xV, zA, upd, cells?, part, retag, xT, putIn, refFree, xR, isNew, xS, Ty.isAgg, zB, idsL, ids, idsLL, reach, depth, St.dropL, qD, resultV, ↓reduceIte, Nat.reduceBEq, Nat.reduceAdd, Nat.reduceSub, Nat.reduceMul, Nat.reduceEqDiff, Nat.reduceLeDiff, Nat.reduceLT, qJ, qK, zV, zW, qL, qM, qN, qO, Eff.ap, qP, qQ, xW, qR, zI, onto, dropO, xA, sized, zP, eqT, eqG, minV, evUn, qS, zQ, zR, zS, qC, qT, upO, evSlice0, optInt, xC, qV, xD, del, xB, plain, plainL, zY, zZ, zT, qW, zU, zX, xY, qX, qY, qZ, xE, zJ, zK, zL, xF, xG, wit, xH, Option.isSome_some, xI, qH, xJ, evPre, St.with, xK, xL, zD, xM, xN, xO, Array.size, te, einl, inls, efr]
              (first | exact ⟨(), trivial⟩ | refine ⟨(), ?_, trivial⟩ | skip)
        · have hz := hs n (List.mem_of_getElem? y3)
          have y5 := done_get (pre := pre) hz
          cases f : loadedM pre n with
          | true =>
            have f1 : x.goods.any (loadedM pre) = true := List.any_eq_true.2 ⟨n, List.mem_of_getElem? y3, f⟩
            rw [f1, if_pos rfl] at hi
            rw [f] at y5
            simp (maxSteps := 1000000) (implicitDefEqProofs := false) only [y1, y2, y3, y4, y5, hz.1, hz.2, hi, vI_def, done_len, Try.ntmps52, Try.results52, efc52, fc52, Int.natCast_nonneg, Int.toNat_natCast, List.getElem?_map, List.length_map, ss, List.replicate, zH, qG, zF, zG, St.eval, St.put, St.get, constV, List.set, lenV, qE, qF, qB, zC, norm, xQ, look, xP, xX, zO, zM, zE, zN, qA, qI, St.alloc, St.drop, killL, kill, xU, xV, zA, upd, cells?, part, retag, xT, putIn, refFree, xR, isNew, xS, Ty.isAgg, zB, idsL, ids, idsLL, reach, depth, St.dropL, qD, resultV, ↓reduceIte, Nat.reduceBEq, Nat.reduceAdd, Nat.reduceSub, Nat.reduceMul, Nat.reduceEqDiff, Nat.reduceLeDiff, Nat.reduceLT, qJ, qK, zV, zW, qL, qM, qN, qO, Eff.ap, qP, qQ, xW, qR, zI, onto, dropO, xA, sized, zP, eqT, eqG, minV, evUn, qS, zQ, zR, zS, qC, qT, upO, evSlice0, optInt, xC, qV, xD, del, xB, plain, plainL, zY, zZ, zT, qW, zU, zX, xY, qX, qY, qZ, xE, zJ, zK, zL, xF, xG, wit, xH, Option.isSome_some, xI, qH, xJ, evPre, St.with, xK, xL, zD, xM, xN, xO, Array.size, te, einl, inls, efr]
          | false =>
            rw [f] at y5
            simp (maxSteps := 1000000) (implicitDefEqProofs := false) only [y1, y2, y3, y4, y5, hz.1, hz.2, vI_def, done_len, Int.natCast_nonneg, Int.toNat_natCast, List.getElem?_map, List.length_map, ss, List.replicate, zH, qG, zF, zG, St.eval, St.put, St.get, constV, List.set, lenV, qE, qF, qB, zC, norm, xQ, look, xP, xX, zO, zM, zE, zN, qA, qI, St.alloc, St.drop, killL, kill, xU, xV, zA, upd, cells?, part, retag, xT, putIn, refFree, xR, isNew, xS, Ty.isAgg, zB, idsL, ids, idsLL, reach, depth, St.dropL, qD, resultV, ↓reduceIte, Nat.reduceBEq, Nat.reduceAdd, Nat.reduceSub, Nat.reduceMul, Nat.reduceEqDiff, Nat.reduceLeDiff, Nat.reduceLT, qJ, qK, zV, zW, qL, qM, qN, qO, Eff.ap, qP, qQ, xW, qR, zI, onto, dropO, xA, sized, zP, eqT, eqG, minV, evUn, qS, zQ, zR, zS, qC, qT, upO, evSlice0, optInt, xC, qV, xD, del, xB, plain, plainL, zY, zZ, zT, qW, zU, zX, xY, qX, qY, qZ, xE, zJ, zK, zL, xF, xG, wit, xH, Option.isSome_some, xI, qH, xJ, evPre, St.with, xK, xL, zD, xM, xN, xO, Array.size, te, einl, inls, efr]
            exact ⟨(), by rw [List.any_append, hf]; simp [f]⟩
      · rw [if_pos hA] at hi
        have hA' : (aloneM l gs K != 0) = true := by simpa using hA
        simp (maxSteps := 1000000) (implicitDefEqProofs := false) only [g1, g2, g3, g4, hi, hA', d4, k58, k58b, k28, k84, k85, k86, w0, Try.ntmps52, Try.results52, efc52, fc52, encLd, Int.natCast_nonneg, Int.toNat_natCast, List.getElem?_map, List.length_map, Bool.not_false, Bool.not_true, ss, List.replicate, zH, qG, zF, zG, St.eval, St.put, St.get, constV, List.set, lenV, qE, qF, qB, zC, norm, xQ, look, xP, xX, zO, zM, zE, zN, qA, qI, St.alloc, St.drop, killL, kill, xU, xV, zA, upd, cells?, part, retag, xT, putIn, refFree, xR, isNew, xS, Ty.isAgg, zB, idsL, ids, idsLL, reach, depth, St.dropL, qD, resultV, ↓reduceIte, Nat.reduceBEq, Nat.reduceAdd, Nat.reduceSub, Nat.reduceMul, Nat.reduceEqDiff, Nat.reduceLeDiff, Nat.reduceLT, qJ, qK, zV, zW, qL, qM, qN, qO, Eff.ap, qP, qQ, xW, qR, zI, onto, dropO, xA, sized, zP, eqT, eqG, minV, evUn, qS, zQ, zR, zS, qC, qT, upO, evSlice0, optInt, xC, qV, xD, del, xB, plain, plainL, zY, zZ, zT, qW, zU, zX, xY, qX, qY, qZ, xE, zJ, zK, zL, xF, xG, wit, xH, Option.isSome_some, xI, qH, xJ, evPre, St.with, xK, xL, zD, xM, xN, xO, Array.size, te, einl, inls, efr]
  · have hb' : (bothE l gs != 0) = true := by simpa using hb
    simp (maxSteps := 1000000) (implicitDefEqProofs := false) only [Try.ntmps52, Try.results52, efc52, fc52, k67, hb', ne_eq, hb, not_false_eq_true, if_true, ss, List.replicate, zH, qG, zF, zG, St.eval, St.put, St.get, constV, List.set, lenV, qE, qF, qB, zC, norm, xQ, look, xP, xX, zO, zM, zE, zN, qA, qI, St.alloc, St.drop, killL, kill, xU, xV, zA, upd, cells?, part, retag, xT, putIn, refFree, xR, isNew, xS, Ty.isAgg, zB, idsL, ids, idsLL, reach, depth, St.dropL, qD, resultV, ↓reduceIte, Nat.reduceBEq, Nat.reduceAdd, Nat.reduceSub, Nat.reduceMul, Nat.reduceEqDiff, Nat.reduceLeDiff, Nat.reduceLT, qJ, qK, zV, zW, qL, qM, qN, qO, Eff.ap, qP, qQ, xW, qR, zI, onto, dropO, xA, sized, zP, eqT, eqG, minV, evUn, qS, zQ, zR, zS, qC, qT, upO, evSlice0, optInt, xC, qV, xD, del, xB, plain, plainL, zY, zZ, zT, qW, zU, zX, xY, qX, qY, qZ, xE, zJ, zK, zL, xF, xG, wit, xH, Option.isSome_some, xI, qH, xJ, evPre, St.with, xK, xL, zD, xM, xN, xO, Array.size, te, einl, inls, efr]

theorem inf57 : (drawn (Try.f57.body.getD .skip)).map infosOf = [[([], false), ([], false), ([], false), ([], false), ([], false), ([], false), ([], false), ([], false), ([], false), ([], false), ([], false), ([], false), ([], false), ([], false), ([], true), ([], true), ([], false), ([], false), ([], false), ([], true)], [([], false), ([], false), ([], false), ([], false), ([], false), ([], false), ([], false), ([], false), ([], false), ([], false), ([], false), ([], false), ([1, 4, 6, 8, 9, 10, 11], false), ([], true)]] := by decide +kernel
theorem okD57 : (drawn (Try.f57.body.getD .skip)).all okBad = true := by decide +kernel


theorem days_one {l : List Loft} {g : Goods} (hb : validLs l = 0) (hg : goodsOk g = true) : bothE l [g] = 0 := by
  unfold bothE
  rw [if_pos hb]
  unfold goodsE
  simp [hg]

set_option maxRecDepth 20000 in
set_option maxHeartbeats 16000000 in
theorem c57 (l : List Loft) (gs : List Goods) (plan : List Load) (hb : bothE l gs = 0) (ha : Acc l gs plan) (hp : plan.length ≤ 1000000) : (orcω E X0).call 57 [.agg [.sl false (l.map encL), .sl false (gs.map encG)], .sl false (plan.map encLd)] = some (.bool true) := by
  refine call_of rfl fn57 rfl ?_
  have hi := inf57
  have ho := okD57
  simp only [Try.f57, Option.getD_some, drawn, List.map_cons, List.map_nil, List.nil_append, List.append_nil, List.cons_append, List.cons.injEq, and_true] at hi
  simp only [Try.f57, Option.getD_some, drawn, List.nil_append, List.append_nil, List.cons_append, List.all_cons, List.all_nil, Bool.and_true, Bool.and_eq_true] at ho
  obtain ⟨hi1, hi2⟩ := hi
  obtain ⟨ho1, ho2⟩ := ho
  obtain ⟨hl, hln, hg, hgn⟩ := both_facts hb
  obtain ⟨hv, _⟩ := bothE_zero hb
  simp (maxSteps := 1000000) (implicitDefEqProofs := false) only [Try.ntmps57, Try.results57, efc57, fc57, List.length_map, ss, List.replicate, zH, qG, zF, zG, St.eval, St.put, St.get, constV, List.set, lenV, qE, qF, qB, zC, norm, xQ, look, xP, xX, zO, zM, zE, zN, qA, qI, St.alloc, St.drop, killL, kill, xU, xV, zA, upd, cells?, part, retag, xT, putIn, refFree, xR, isNew, xS, Ty.isAgg, zB, idsL, ids, idsLL, reach, depth, St.dropL, qD, resultV, ↓reduceIte, Nat.reduceBEq, Nat.reduceAdd, Nat.reduceSub, Nat.reduceMul, Nat.reduceEqDiff, Nat.reduceLeDiff, Nat.reduceLT, qJ, qK, zV, zW, qL, qM, qN, qO, Eff.ap, qP, qQ, xW, qR, zI, onto, dropO, xA, sized, zP, eqT, eqG, minV, evUn, qS, zQ, zR, zS, qC, qT, upO, evSlice0, optInt, xC, qV, xD, del, xB, plain, plainL, zY, zZ, zT, qW, zU, zX, xY, qX, qY, qZ, xE, zJ, zK, zL, xF, xG, wit, xH, Option.isSome_some, xI, qH, xJ, evPre, St.with, xK, xL, zD, xM, xN, xO, Array.size, te, einl, inls, efr]
  generalize hr : loopAt _ _ _ _ _ _ = r; revert r
  refine loop_list plan (fun pre _ => [(5, .int .i64 pre.length)]) (fun _ _ => []) (fun _ (_ : Unit) => True) () (by omega) (by simp (maxSteps := 1000000) (implicitDefEqProofs := false) only [ss, List.replicate, zH, qG, zF, zG, St.eval, St.put, St.get, constV, List.set, lenV, qE, qF, qB, zC, norm, xQ, look, xP, xX, zO, zM, zE, zN, qA, qI, St.alloc, St.drop, killL, kill, xU, xV, zA, upd, cells?, part, retag, xT, putIn, refFree, xR, isNew, xS, Ty.isAgg, zB, idsL, ids, idsLL, reach, depth, St.dropL, qD, resultV, ↓reduceIte, Nat.reduceBEq, Nat.reduceAdd, Nat.reduceSub, Nat.reduceMul, Nat.reduceEqDiff, Nat.reduceLeDiff, Nat.reduceLT, qJ, qK, zV, zW, qL, qM, qN, qO, Eff.ap, qP, qQ, xW, qR, zI, onto, dropO, xA, sized, zP, eqT, eqG, minV, evUn, qS, zQ, zR, zS, qC, qT, upO, evSlice0, optInt, xC, qV, xD, del, xB, plain, plainL, zY, zZ, zT, qW, zU, zX, xY, qX, qY, qZ, xE, zJ, zK, zL, xF, xG, wit, xH, Option.isSome_some, xI, qH, xJ, evPre, St.with, xK, xL, zD, xM, xN, xO, Array.size, te, einl, inls, efr]) trivial (fun _ _ => ?_) (fun pre x post _ hq _ g1 g2 g3 g4 => ?_)
  · simp (maxSteps := 1000000) (implicitDefEqProofs := false) only [Int.lt_irrefl, Try.ntmps57, Try.results57, efc57, fc57, List.length_map, ss, List.replicate, zH, qG, zF, zG, St.eval, St.put, St.get, constV, List.set, lenV, qE, qF, qB, zC, norm, xQ, look, xP, xX, zO, zM, zE, zN, qA, qI, St.alloc, St.drop, killL, kill, xU, xV, zA, upd, cells?, part, retag, xT, putIn, refFree, xR, isNew, xS, Ty.isAgg, zB, idsL, ids, idsLL, reach, depth, St.dropL, qD, resultV, ↓reduceIte, Nat.reduceBEq, Nat.reduceAdd, Nat.reduceSub, Nat.reduceMul, Nat.reduceEqDiff, Nat.reduceLeDiff, Nat.reduceLT, qJ, qK, zV, zW, qL, qM, qN, qO, Eff.ap, qP, qQ, xW, qR, zI, onto, dropO, xA, sized, zP, eqT, eqG, minV, evUn, qS, zQ, zR, zS, qC, qT, upO, evSlice0, optInt, xC, qV, xD, del, xB, plain, plainL, zY, zZ, zT, qW, zU, zX, xY, qX, qY, qZ, xE, zJ, zK, zL, xF, xG, wit, xH, Option.isSome_some, xI, qH, xJ, evPre, St.with, xK, xL, zD, xM, xN, xO, Array.size, te, einl, inls, efr]
  · have s := by_iff.1 (ha.each x (List.mem_of_getElem? g3))
    have e1 := loftAt_get s.loft.1 s.loft.2
    have hf := hl _ (loftAt_mem (l := l) s.loft)
    have k26 := c26 (loftAt l x.loft) x.heats
    unfold warmthR encI2 at k26
    rw [if_pos (validLs_self hf), if_pos s.heats] at k26
    have hsl := isSet_len s.set
    unfold encL at k26
    simp (maxSteps := 1000000) (implicitDefEqProofs := false) only [g1, g2, g3, g4, e1, s.loft.1, s.loft.2, k26, encLd, encL, Int.natCast_nonneg, Int.toNat_natCast, List.getElem?_map, List.length_map, regT ho1 hi1, evBT_nil, evBT_cons, effT_true, effT_false, effT2_some, effT2_none, calmT, free, Eff.writes, supp, isBar, Option.toList_some, Option.toList_none, ss, List.replicate, zH, qG, zF, zG, St.eval, St.put, St.get, constV, List.set, lenV, qE, qF, qB, zC, norm, xQ, look, xP, xX, zO, zM, zE, zN, qA, qI, St.alloc, St.drop, killL, kill, xU, xV, zA, upd, cells?, part, retag, xT, putIn, refFree, xR, isNew, xS, Ty.isAgg, zB, idsL, ids, idsLL, reach, depth, St.dropL, qD, resultV, ↓reduceIte, Nat.reduceBEq, Nat.reduceAdd, Nat.reduceSub, Nat.reduceMul, Nat.reduceEqDiff, Nat.reduceLeDiff, Nat.reduceLT, qJ, qK, zV, zW, qL, qM, qN, qO, Eff.ap, qP, qQ, xW, qR, zI, onto, dropO, xA, sized, zP, eqT, eqG, minV, evUn, qS, zQ, zR, zS, qC, qT, upO, evSlice0, optInt, xC, qV, xD, del, xB, plain, plainL, zY, zZ, zT, qW, zU, zX, xY, qX, qY, qZ, xE, zJ, zK, zL, xF, xG, wit, xH, Option.isSome_some, xI, qH, xJ, evPre, St.with, xK, xL, zD, xM, xN, xO, Array.size, te, einl, inls, efr]
    generalize hr : loopAt _ _ _ _ _ _ = r; revert r
    refine loop_list x.goods (fun pre _ => [(8, .int .i64 pre.length)]) (fun _ _ => []) (fun _ (_ : Unit) => True) () (by omega) (by simp (maxSteps := 1000000) (implicitDefEqProofs := false) only [ss, List.replicate, zH, qG, zF, zG, St.eval, St.put, St.get, constV, List.set, lenV, qE, qF, qB, zC, norm, xQ, look, xP, xX, zO, zM, zE, zN, qA, qI, St.alloc, St.drop, killL, kill, xU, xV, zA, upd, cells?, part, retag, xT, putIn, refFree, xR, isNew, xS, Ty.isAgg, zB, idsL, ids, idsLL, reach, depth, St.dropL, qD, resultV, ↓reduceIte, Nat.reduceBEq, Nat.reduceAdd, Nat.reduceSub, Nat.reduceMul, Nat.reduceEqDiff, Nat.reduceLeDiff, Nat.reduceLT, qJ, qK, zV, zW, qL, qM, qN, qO, Eff.ap, qP, qQ, xW, qR, zI, onto, dropO, xA, sized, zP, eqT, eqG, minV, evUn, qS, zQ, zR, zS, qC, qT, upO, evSlice0, optInt, xC, qV, xD, del, xB, plain, plainL, zY, zZ, zT, qW, zU, zX, xY, qX, qY, qZ, xE, zJ, zK, zL, xF, xG, wit, xH, Option.isSome_some, xI, qH, xJ, evPre, St.with, xK, xL, zD, xM, xN, xO, Array.size, te, einl, inls, efr]) trivial (fun _ _ => ?_) (fun pre2 n post2 _ hq2 _ y1 y2 y3 y4 => ?_)
    · simp (maxSteps := 1000000) (implicitDefEqProofs := false) only [g1, g2, g3, g4, encLd, Int.lt_irrefl, Int.natCast_nonneg, Int.toNat_natCast, List.getElem?_map, List.length_map, ss, List.replicate, zH, qG, zF, zG, St.eval, St.put, St.get, constV, List.set, lenV, qE, qF, qB, zC, norm, xQ, look, xP, xX, zO, zM, zE, zN, qA, qI, St.alloc, St.drop, killL, kill, xU, xV, zA, upd, cells?, part, retag, xT, putIn, refFree, xR, isNew, xS, Ty.isAgg, zB, idsL, ids, idsLL, reach, depth, St.dropL, qD, resultV, ↓reduceIte, Nat.reduceBEq, Nat.reduceAdd, Nat.reduceSub, Nat.reduceMul, Nat.reduceEqDiff, Nat.reduceLeDiff, Nat.reduceLT, qJ, qK, zV, zW, qL, qM, qN, qO, Eff.ap, qP, qQ, xW, qR, zI, onto, dropO, xA, sized, zP, eqT, eqG, minV, evUn, qS, zQ, zR, zS, qC, qT, upO, evSlice0, optInt, xC, qV, xD, del, xB, plain, plainL, zY, zZ, zT, qW, zU, zX, xY, qX, qY, qZ, xE, zJ, zK, zL, xF, xG, wit, xH, Option.isSome_some, xI, qH, xJ, evPre, St.with, xK, xL, zD, xM, xN, xO, Array.size, te, einl, inls, efr]
      exact ⟨(), trivial⟩
    · have hn := List.mem_of_getElem? y3
      have hr := goods_good s hn
      have e2 := goodAt_get hr.1 hr.2
      have hgm := hg _ (goodAt_mem hr)
      have hw := s.warm n hn
      obtain ⟨d1, d2⟩ := sound_ripe hl hg s hn
      have k34 := c34 l (goodAt gs n)
      unfold daysR encD3 at k34
      rw [if_pos (days_one hv hgm)] at k34
      dsimp only at k34
      rw [d1] at k34
      have t1 : ¬ warmM (loftAt l x.loft) x.heats < (goodAt gs n).need := by omega
      have t2 : ¬ (goodAt gs n).most < warmM (loftAt l x.loft) x.heats := by omega
      have t3 : ¬ (x.heats.length : Int) < (daysM (goodAt gs n) l).1 := by omega
      unfold encG at k34
      simp (maxSteps := 1000000) (implicitDefEqProofs := false) only [g1, g2, g3, g4, y1, y2, y3, y4, e2, hr.1, hr.2, k34, t1, t2, t3, encLd, encG, vI_def, bne_self_eq_false, Int.natCast_nonneg, Int.toNat_natCast, List.getElem?_map, List.length_map, regT ho2 hi2, evBT_nil, evBT_cons, effT_true, effT_false, effT2_some, effT2_none, calmT, free, Eff.writes, supp, isBar, Option.toList_some, Option.toList_none, ss, List.replicate, zH, qG, zF, zG, St.eval, St.put, St.get, constV, List.set, lenV, qE, qF, qB, zC, norm, xQ, look, xP, xX, zO, zM, zE, zN, qA, qI, St.alloc, St.drop, killL, kill, xU, xV, zA, upd, cells?, part, retag, xT, putIn, refFree, xR, isNew, xS, Ty.isAgg, zB, idsL, ids, idsLL, reach, depth, St.dropL, qD, resultV, ↓reduceIte, Nat.reduceBEq, Nat.reduceAdd, Nat.reduceSub, Nat.reduceMul, Nat.reduceEqDiff, Nat.reduceLeDiff, Nat.reduceLT, qJ, qK, zV, zW, qL, qM, qN, qO, Eff.ap, qP, qQ, xW, qR, zI, onto, dropO, xA, sized, zP, eqT, eqG, minV, evUn, qS, zQ, zR, zS, qC, qT, upO, evSlice0, optInt, xC, qV, xD, del, xB, plain, plainL, zY, zZ, zT, qW, zU, zX, xY, qX, qY, qZ, xE, zJ, zK, zL, xF, xG, wit, xH, Option.isSome_some, xI, qH, xJ, evPre, St.with, xK, xL, zD, xM, xN, xO, Array.size, te, einl, inls, efr]
      exact ⟨(), trivial⟩
end Go.AM.B

