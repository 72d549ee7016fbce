/-
Loads: a plan's check, as the program does it.
-/
import Derived.Test.YtbfgifolmpmagaaBCheckE
import Derived.Test.YtbfgifolmpmagaaBLarge
set_option linter.unusedVariables false
set_option linter.unusedSimpArgs false

namespace Go.AM.B
open Go Go.AM Go.Proofs

def checkFrom (l : List Loft) (gs : List Goods) : List Load → List Load → Int
  | pre, [] => if (List.range gs.length).any (fun (i : Nat) => !loadedM pre i) = true then 11 else 0
  | pre, x :: r => if byM l gs x ≠ 0 then byM l gs x else if (x.goods.any (loadedM pre)) = true then 8 else
    if ((pre.map (seeM l gs)).any (meetsK (seeM l gs x))) = true then 10 else checkFrom l gs (pre ++ [x]) r
def checkM (l : List Loft) (gs : List Goods) (plan : List Load) : Int := if bothE l gs ≠ 0 then bothE l gs else checkFrom l gs [] plan

def doneB (n : Nat) (pre : List Load) : List Bool := (List.range n).map fun (i : Nat) => loadedM pre i

theorem done_nil (n : Nat) : (doneB n []).map V.bool = List.replicate n (V.bool false) := by
  unfold doneB
  rw [List.map_map]
  apply List.ext_getElem
  · simp
  · intro i h1 h2; simp [loadedM]
theorem done_any (n : Nat) (pre : List Load) : ((doneB n pre).any fun b => !b) = (List.range n).any (fun (i : Nat) => !loadedM pre i) := by
  unfold doneB; rw [List.any_map]; rfl
theorem done_len (n : Nat) (pre : List Load) : (doneB n pre).length = n := by simp [doneB]
theorem done_get {n : Nat} {pre : List Load} {i : Int} (h : 0 ≤ i ∧ i < n) : (doneB n pre)[i.toNat]? = some (loadedM pre i) := by
  have h1 : i.toNat < n := by omega
  have h2 : ((i.toNat : Nat) : Int) = i := by omega
  unfold doneB
  rw [List.getElem?_map, List.getElem?_range h1, Option.map_some, h2]

def markB (n : Nat) (pre : List Load) (ns : List Int) : List Bool := (List.range n).map fun (i : Nat) => loadedM pre i || ns.contains (i : Int)
theorem mark_nil (n : Nat) (pre : List Load) : markB n pre [] = doneB n pre := by simp [markB, doneB]
theorem mark_all (n : Nat) (pre : List Load) (x : Load) : markB n pre x.goods = doneB n (pre ++ [x]) := by
  unfold markB doneB
  congr 1
  funext i
  simp [loadedM]
theorem mark_len (n : Nat) (pre : List Load) (ns : List Int) : (markB n pre ns).length = n := by simp [markB]
theorem mark_get {n : Nat} {pre : List Load} {ns : List Int} {i : Int} (h : 0 ≤ i ∧ i < n) : (markB n pre ns)[i.toNat]? = some (loadedM pre i || ns.contains i) := by
  have h1 : i.toNat < n := by omega
  have h2 : ((i.toNat : Nat) : Int) = i := by omega
  unfold markB
  rw [List.getElem?_map, List.getElem?_range h1, Option.map_some, h2]
theorem mark_set {n : Nat} {pre : List Load} {ns : List Int} {i : Int} (h : 0 ≤ i ∧ i < n) : ((markB n pre ns).map V.bool).set i.toNat (.bool true) = (markB n pre (ns ++ [i])).map V.bool := by
  apply List.ext_getElem
  · simp [mark_len]
  · intro j h1 h2
    have hj : j < n := by simpa [mark_len] using h2
    rw [List.getElem_set]
    by_cases e : i.toNat = j
    · have e2 : (j : Int) = i := by omega
      rw [if_pos e]
      simp [markB, e2]
    · have e2 : ¬ (j : Int) = i := by omega
      rw [if_neg e]
      simp [markB, e2]

set_option maxRecDepth 20000 in
set_option maxHeartbeats 8000000 in
theorem c52 (l : List Loft) (gs : List Goods) (plan : List Load) (hn : l.length ≤ 1000000) (hm : gs.length ≤ 1000000) (hp : plan.length ≤ 1000000)
    (h4 : ∀ x ∈ plan, x.heats.length ≤ 1000) (h6 : ∀ x ∈ plan, x.goods.length ≤ 1000000) : (orcω E X0).call 52 [.sl false (l.map encL), .sl false (gs.map encG), .sl false (plan.map encLd)] = some (.int .i64 (checkM l gs plan)) := by
  refine call_of rfl fn52 rfl ?_
  unfold checkM
  have k67 := c67 l gs (by omega)
  by_cases hb : bothE l gs = 0
  · rw [hb] at k67 ⊢
    obtain ⟨hl, hln, hg, hgn⟩ := both_facts hb
    have r1 : roomy gs.length 1 = true := by simp [roomy]; omega
    have r2 : (gs.length : Int) ≤ 4294967296 := by omega
    simp (maxSteps := 1000000) (implicitDefEqProofs := false) only [Try.ntmps52, Try.results52, efc52, fc52, k67, r1, r2, bne_self_eq_false, List.length_map, ne_eq, not_true_eq_false, if_false, Int.toNat_natCast, Int.natCast_nonneg, ss, List.replicate, zH, qG, zF, zG, St.eval, St.put, St.get, constV, List.set, lenV, qE, qF, qB, zC, norm, xQ, look, xP, xX, zO, zM, zE, zN, qA, qI, St.alloc, St.drop, killL, kill, xU, xV, zA, upd, cells?, part, retag, xT, putIn, refFree, xR, isNew, xS, Ty.isAgg, zB, idsL, ids, idsLL, reach, depth, St.dropL, qD, resultV, ↓reduceIte, Nat.reduceBEq, Nat.reduceAdd, Nat.reduceSub, Nat.reduceMul, Nat.reduceEqDiff, Nat.reduceLeDiff, Nat.reduceLT, qJ, qK, zV, zW, qL, qM, qN, qO, Eff.ap, qP, qQ, xW, qR, zI, onto, dropO, xA, sized, zP, eqT, eqG, minV, evUn, qS, zQ, zR, zS, qC, qT, upO, evSlice0, optInt, xC, qV, xD, del, xB, plain, plainL, zY, zZ, zT, qW, zU, zX, xY, qX, qY, qZ, xE, zJ, zK, zL, xF, xG, wit, xH, Option.isSome_some, xI, qH, xJ, evPre, St.with, xK, xL, zD, xM, xN, xO, Array.size, te, einl, inls, efr]
    generalize hr : loopAt _ _ _ _ _ _ = r; revert r
    refine loop_list plan (fun pre _ => [(8, .own 8 0 gs.length), (9, .own 9 0 pre.length), (29, .int .i64 pre.length)]) (fun pre _ => [(8, { es := 1, flat := true, t := true, app := true, elems := (doneB gs.length pre).map V.bool }), (9, { es := 7, flat := true, t := pre.isEmpty, app := true, elems := (pre.map (seeM l gs)).map encK })]) (fun pre (_ : Unit) => checkFrom l gs [] plan = checkFrom l gs pre (plan.drop pre.length)) () (by omega) (by simp (maxSteps := 1000000) (implicitDefEqProofs := false) only [List.map_nil, List.isEmpty_nil, done_nil, ss, List.replicate, zH, qG, zF, zG, St.eval, St.put, St.get, constV, List.set, lenV, qE, qF, qB, zC, norm, xQ, look, xP, xX, zO, zM, zE, zN, qA, qI, St.alloc, St.drop, killL, kill, xU, xV, zA, upd, cells?, part, retag, xT, putIn, refFree, xR, isNew, xS, Ty.isAgg, zB, idsL, ids, idsLL, reach, depth, St.dropL, qD, resultV, ↓reduceIte, Nat.reduceBEq, Nat.reduceAdd, Nat.reduceSub, Nat.reduceMul, Nat.reduceEqDiff, Nat.reduceLeDiff, Nat.reduceLT, qJ, qK, zV, zW, qL, qM, qN, qO, Eff.ap, qP, qQ, xW, qR, zI, onto, dropO, xA, sized, zP, eqT, eqG, minV, evUn, qS, zQ, zR, zS, qC, qT, upO, evSlice0, optInt, xC, qV, xD, del, xB, plain, plainL, zY, zZ, zT, qW, zU, zX, xY, qX, qY, qZ, xE, zJ, zK, zL, xF, xG, wit, xH, Option.isSome_some, xI, qH, xJ, evPre, St.with, xK, xL, zD, xM, xN, xO, Array.size, te, einl, inls, efr]) rfl (fun _ hi => ?_) (fun pre x post _ hq hi g1 g2 g3 g4 => ?_)
    · have k89 := c89 (doneB gs.length plan) (by rw [done_len]; omega)
      have tk : ((doneB gs.length plan).map V.bool).take gs.length = (doneB gs.length plan).map V.bool := List.take_of_length_le (by simp [done_len])
      rw [done_any] at k89
      rw [List.drop_length, checkFrom] at hi
      cases hz : (List.range gs.length).any (fun (i : Nat) => !loadedM plan i) with
      | true =>
        rw [hz] at k89 hi
        rw [if_pos rfl] at hi
        simp (maxSteps := 1000000) (implicitDefEqProofs := false) only [Int.lt_irrefl, List.length_map, k89, hi, tk, done_len, Try.ntmps52, Try.results52, efc52, fc52, ss, List.replicate, zH, qG, zF, zG, St.eval, St.put, St.get, constV, List.set, lenV, qE, qF, qB, zC, norm, xQ, look, xP, xX, zO, zM, zE, zN, qA, qI, St.alloc, St.drop, killL, kill, xU, xV, zA, upd, cells?, part, retag, xT, putIn, refFree, xR, isNew, xS, Ty.isAgg, zB, idsL, ids, idsLL, reach, depth, St.dropL, qD, resultV, ↓reduceIte, Nat.reduceBEq, Nat.reduceAdd, Nat.reduceSub, Nat.reduceMul, Nat.reduceEqDiff, Nat.reduceLeDiff, Nat.reduceLT, qJ, qK, zV, zW, qL, qM, qN, qO, Eff.ap, qP, qQ, xW, qR, zI, onto, dropO, xA, sized, zP, eqT, eqG, minV, evUn, qS, zQ, zR, zS, qC, qT, upO, evSlice0, optInt, xC, qV, xD, del, xB, plain, plainL, zY, zZ, zT, qW, zU, zX, xY, qX, qY, qZ, xE, zJ, zK, zL, xF, xG, wit, xH, Option.isSome_some, xI, qH, xJ, evPre, St.with, xK, xL, zD, xM, xN, xO, Array.size, te, einl, inls, efr]
      | false =>
        rw [hz] at k89 hi
        rw [if_neg (by decide)] at hi
        simp (maxSteps := 1000000) (implicitDefEqProofs := false) only [Int.lt_irrefl, List.length_map, k89, hi, tk, done_len, Try.ntmps52, Try.results52, efc52, fc52, ss, List.replicate, zH, qG, zF, zG, St.eval, St.put, St.get, constV, List.set, lenV, qE, qF, qB, zC, norm, xQ, look, xP, xX, zO, zM, zE, zN, qA, qI, St.alloc, St.drop, killL, kill, xU, xV, zA, upd, cells?, part, retag, xT, putIn, refFree, xR, isNew, xS, Ty.isAgg, zB, idsL, ids, idsLL, reach, depth, St.dropL, qD, resultV, ↓reduceIte, Nat.reduceBEq, Nat.reduceAdd, Nat.reduceSub, Nat.reduceMul, Nat.reduceEqDiff, Nat.reduceLeDiff, Nat.reduceLT, qJ, qK, zV, zW, qL, qM, qN, qO, Eff.ap, qP, qQ, xW, qR, zI, onto, dropO, xA, sized, zP, eqT, eqG, minV, evUn, qS, zQ, zR, zS, qC, qT, upO, evSlice0, optInt, xC, qV, xD, del, xB, plain, plainL, zY, zZ, zT, qW, zU, zX, xY, qX, qY, qZ, xE, zJ, zK, zL, xF, xG, wit, xH, Option.isSome_some, xI, qH, xJ, evPre, St.with, xK, xL, zD, xM, xN, xO, Array.size, te, einl, inls, efr]
    · have hd : plan.drop pre.length = x :: post := by rw [hq]; simp
      have hx := List.mem_of_getElem? g3
      have h4 := h4 x hx
      have h6 := h6 x hx
      rw [hd, checkFrom] at hi
      have w0 : IntKind.i64.wrap ((l.length : Int) - 1) = l.length - 1 := wrap_in (by omega)
      have k58 := c58 x.loft 0 (l.length - 1)
      have k58b := c58 x.start 0 60
      have k28 := c28 x.heats
      have k84 := c84 x.goods gs.length (by omega) (by omega)
      cases c1 : inB x.loft 0 (l.length - 1) with
      | false =>
        have e : byM l gs x = 5 := by unfold byM; rw [c1]; rfl
        rw [e, if_pos (by decide)] at hi
        rw [c1] at k58
        simp (maxSteps := 1000000) (implicitDefEqProofs := false) only [g1, g2, g3, g4, hi, k58, w0, Try.ntmps52, Try.results52, efc52, fc52, encLd, Int.natCast_nonneg, Int.toNat_natCast, List.getElem?_map, List.length_map, Bool.not_false, ss, List.replicate, zH, qG, zF, zG, St.eval, St.put, St.get, constV, List.set, lenV, qE, qF, qB, zC, norm, xQ, look, xP, xX, zO, zM, zE, zN, qA, qI, St.alloc, St.drop, killL, kill, xU, xV, zA, upd, cells?, part, retag, xT, putIn, refFree, xR, isNew, xS, Ty.isAgg, zB, idsL, ids, idsLL, reach, depth, St.dropL, qD, resultV, ↓reduceIte, Nat.reduceBEq, Nat.reduceAdd, Nat.reduceSub, Nat.reduceMul, Nat.reduceEqDiff, Nat.reduceLeDiff, Nat.reduceLT, qJ, qK, zV, zW, qL, qM, qN, qO, Eff.ap, qP, qQ, xW, qR, zI, onto, dropO, xA, sized, zP, eqT, eqG, minV, evUn, qS, zQ, zR, zS, qC, qT, upO, evSlice0, optInt, xC, qV, xD, del, xB, plain, plainL, zY, zZ, zT, qW, zU, zX, xY, qX, qY, qZ, xE, zJ, zK, zL, xF, xG, wit, xH, Option.isSome_some, xI, qH, xJ, evPre, St.with, xK, xL, zD, xM, xN, xO, Array.size, te, einl, inls, efr]
      | true =>
      rw [c1] at k58
      have h1 := inB_iff.1 c1
      cases c2 : (!inB x.start 0 60 || (!validHs x.heats || (x.goods.isEmpty || !isSetM x.goods gs.length))) with
      | true =>
        have e : byM l gs x = 1 := by unfold byM; rw [c1, c2]; rfl
        rw [e, if_pos (by decide)] at hi
        cases q1 : inB x.start 0 60 with
        | false =>
          rw [q1] at k58b
          simp (maxSteps := 1000000) (implicitDefEqProofs := false) only [g1, g2, g3, g4, hi, k58, k58b, w0, Try.ntmps52, Try.results52, efc52, fc52, encLd, Int.natCast_nonneg, Int.toNat_natCast, List.getElem?_map, List.length_map, Bool.not_false, Bool.not_true, ss, List.replicate, zH, qG, zF, zG, St.eval, St.put, St.get, constV, List.set, lenV, qE, qF, qB, zC, norm, xQ, look, xP, xX, zO, zM, zE, zN, qA, qI, St.alloc, St.drop, killL, kill, xU, xV, zA, upd, cells?, part, retag, xT, putIn, refFree, xR, isNew, xS, Ty.isAgg, zB, idsL, ids, idsLL, reach, depth, St.dropL, qD, resultV, ↓reduceIte, Nat.reduceBEq, Nat.reduceAdd, Nat.reduceSub, Nat.reduceMul, Nat.reduceEqDiff, Nat.reduceLeDiff, Nat.reduceLT, qJ, qK, zV, zW, qL, qM, qN, qO, Eff.ap, qP, qQ, xW, qR, zI, onto, dropO, xA, sized, zP, eqT, eqG, minV, evUn, qS, zQ, zR, zS, qC, qT, upO, evSlice0, optInt, xC, qV, xD, del, xB, plain, plainL, zY, zZ, zT, qW, zU, zX, xY, qX, qY, qZ, xE, zJ, zK, zL, xF, xG, wit, xH, Option.isSome_some, xI, qH, xJ, evPre, St.with, xK, xL, zD, xM, xN, xO, Array.size, te, einl, inls, efr]
        | true =>
        rw [q1] at k58b
        cases q2 : validHs x.heats with
        | false =>
          rw [q2] at k28
          simp (maxSteps := 1000000) (implicitDefEqProofs := false) only [g1, g2, g3, g4, hi, k58, k58b, k28, w0, Try.ntmps52, Try.results52, efc52, fc52, encLd, Int.natCast_nonneg, Int.toNat_natCast, List.getElem?_map, List.length_map, Bool.not_false, Bool.not_true, ss, List.replicate, zH, qG, zF, zG, St.eval, St.put, St.get, constV, List.set, lenV, qE, qF, qB, zC, norm, xQ, look, xP, xX, zO, zM, zE, zN, qA, qI, St.alloc, St.drop, killL, kill, xU, xV, zA, upd, cells?, part, retag, xT, putIn, refFree, xR, isNew, xS, Ty.isAgg, zB, idsL, ids, idsLL, reach, depth, St.dropL, qD, resultV, ↓reduceIte, Nat.reduceBEq, Nat.reduceAdd, Nat.reduceSub, Nat.reduceMul, Nat.reduceEqDiff, Nat.reduceLeDiff, Nat.reduceLT, qJ, qK, zV, zW, qL, qM, qN, qO, Eff.ap, qP, qQ, xW, qR, zI, onto, dropO, xA, sized, zP, eqT, eqG, minV, evUn, qS, zQ, zR, zS, qC, qT, upO, evSlice0, optInt, xC, qV, xD, del, xB, plain, plainL, zY, zZ, zT, qW, zU, zX, xY, qX, qY, qZ, xE, zJ, zK, zL, xF, xG, wit, xH, Option.isSome_some, xI, qH, xJ, evPre, St.with, xK, xL, zD, xM, xN, xO, Array.size, te, einl, inls, efr]
        | true =>
        rw [q2] at k28
        cases q3 : x.goods.isEmpty with
        | true =>
          have d4 : x.goods.length = 0 := by simpa using q3
          simp (maxSteps := 1000000) (implicitDefEqProofs := false) only [g1, g2, g3, g4, hi, d4, k58, k58b, k28, w0, Try.ntmps52, Try.results52, efc52, fc52, encLd, Int.natCast_zero, BEq.rfl, Int.natCast_nonneg, Int.toNat_natCast, List.getElem?_map, List.length_map, Bool.not_false, Bool.not_true, ss, List.replicate, zH, qG, zF, zG, St.eval, St.put, St.get, constV, List.set, lenV, qE, qF, qB, zC, norm, xQ, look, xP, xX, zO, zM, zE, zN, qA, qI, St.alloc, St.drop, killL, kill, xU, xV, zA, upd, cells?, part, retag, xT, putIn, refFree, xR, isNew, xS, Ty.isAgg, zB, idsL, ids, idsLL, reach, depth, St.dropL, qD, resultV, ↓reduceIte, Nat.reduceBEq, Nat.reduceAdd, Nat.reduceSub, Nat.reduceMul, Nat.reduceEqDiff, Nat.reduceLeDiff, Nat.reduceLT, qJ, qK, zV, zW, qL, qM, qN, qO, Eff.ap, qP, qQ, xW, qR, zI, onto, dropO, xA, sized, zP, eqT, eqG, minV, evUn, qS, zQ, zR, zS, qC, qT, upO, evSlice0, optInt, xC, qV, xD, del, xB, plain, plainL, zY, zZ, zT, qW, zU, zX, xY, qX, qY, qZ, xE, zJ, zK, zL, xF, xG, wit, xH, Option.isSome_some, xI, qH, xJ, evPre, St.with, xK, xL, zD, xM, xN, xO, Array.size, te, einl, inls, efr]
        | false =>
        have d4 : ((x.goods.length : Int) == 0) = false := by
          cases hq : x.goods with
          | nil => rw [hq] at q3; simp at q3
          | cons a b => simp; omega
        cases q4 : isSetM x.goods gs.length with
        | true => rw [q1, q2, q3, q4] at c2; cases c2
        | false =>
          rw [q4] at k84
          simp (maxSteps := 1000000) (implicitDefEqProofs := false) only [g1, g2, g3, g4, hi, d4, k58, k58b, k28, k84, w0, Try.ntmps52, Try.results52, efc52, fc52, encLd, Int.natCast_nonneg, Int.toNat_natCast, List.getElem?_map, List.length_map, Bool.not_false, Bool.not_true, ss, List.replicate, zH, qG, zF, zG, St.eval, St.put, St.get, constV, List.set, lenV, qE, qF, qB, zC, norm, xQ, look, xP, xX, zO, zM, zE, zN, qA, qI, St.alloc, St.drop, killL, kill, xU, xV, zA, upd, cells?, part, retag, xT, putIn, refFree, xR, isNew, xS, Ty.isAgg, zB, idsL, ids, idsLL, reach, depth, St.dropL, qD, resultV, ↓reduceIte, Nat.reduceBEq, Nat.reduceAdd, Nat.reduceSub, Nat.reduceMul, Nat.reduceEqDiff, Nat.reduceLeDiff, Nat.reduceLT, qJ, qK, zV, zW, qL, qM, qN, qO, Eff.ap, qP, qQ, xW, qR, zI, onto, dropO, xA, sized, zP, eqT, eqG, minV, evUn, qS, zQ, zR, zS, qC, qT, upO, evSlice0, optInt, xC, qV, xD, del, xB, plain, plainL, zY, zZ, zT, qW, zU, zX, xY, qX, qY, qZ, xE, zJ, zK, zL, xF, xG, wit, xH, Option.isSome_some, xI, qH, xJ, evPre, St.with, xK, xL, zD, xM, xN, xO, Array.size, te, einl, inls, efr]
      | false =>
      have e : byM l gs x = aloneM l gs (seeM l gs x) := by unfold byM; rw [c1, c2]; rfl
      simp only [Bool.or_eq_false_iff, Bool.not_eq_false'] at c2
      obtain ⟨q1, q2, q3, q4⟩ := c2
      have hs := isSet_in q4
      have h2 := inB_iff.1 q1
      have h3 : heatsFrom 0 x.heats = true := by unfold validHs at q2; rw [Bool.and_eq_true] at q2; exact q2.2
      have k85 := c85 l gs x hl hg (by omega) (by omega) h3 h4 hs h6
      have k86 := c86 l gs (seeM l gs x) (by show 0 ≤ x.loft ∧ x.loft < _; omega) hs h6
      have d4 : ((x.goods.length : Int) == 0) = false := by
        cases hq : x.goods with
        | nil => rw [hq] at q3; simp at q3
        | cons a b => simp; omega
      rw [q1] at k58b
      rw [q2] at k28
      rw [q4] at k84
      rw [e] at hi
      have e2 : (pre.map (seeM l gs)).map encK ++ [encK (seeM l gs x)] = ((pre ++ [x]).map (seeM l gs)).map encK := by simp
      have k87 := c87 (seeM l gs x) (pre.map (seeM l gs)) (by have := congrArg List.length hq; simp at this ⊢; omega)
      generalize seeM l gs x = K at *
      unfold encK kCells at k85 k86
      unfold encLd at k85
      by_cases hA : aloneM l gs K = 0
      · rw [hA] at k86 hi
        rw [if_neg (by simp)] at hi
        simp (maxSteps := 1000000) (implicitDefEqProofs := false) only [g1, g2, g3, g4, d4, k58, k58b, k28, k84, k85, k86, w0, Try.ntmps52, Try.results52, efc52, fc52, encLd, bne_self_eq_false, Int.natCast_nonneg, Int.toNat_natCast, List.getElem?_map, List.length_map, Bool.not_false, Bool.not_true, ss, List.replicate, zH, qG, zF, zG, St.eval, St.put, St.get, constV, List.set, lenV, qE, qF, qB, zC, norm, xQ, look, xP, xX, zO, zM, zE, zN, qA, qI, St.alloc, St.drop, killL, kill, xU, xV, zA, upd, cells?, part, retag, xT, putIn, refFree, xR, isNew, xS, Ty.isAgg, zB, idsL, ids, idsLL, reach, depth, St.dropL, qD, resultV, ↓reduceIte, Nat.reduceBEq, Nat.reduceAdd, Nat.reduceSub, Nat.reduceMul, Nat.reduceEqDiff, Nat.reduceLeDiff, Nat.reduceLT, qJ, qK, zV, zW, qL, qM, qN, qO, Eff.ap, qP, qQ, xW, qR, zI, onto, dropO, xA, sized, zP, eqT, eqG, minV, evUn, qS, zQ, zR, zS, qC, qT, upO, evSlice0, optInt, xC, qV, xD, del, xB, plain, plainL, zY, zZ, zT, qW, zU, zX, xY, qX, qY, qZ, xE, zJ, zK, zL, xF, xG, wit, xH, Option.isSome_some, xI, qH, xJ, evPre, St.with, xK, xL, zD, xM, xN, xO, Array.size, te, einl, inls, efr]
        generalize hr : loopAt _ _ _ _ _ _ = r; revert r
        refine loop_list x.goods (fun pre2 _ => [(78, .int .i64 pre2.length)]) (fun _ _ => []) (fun pre2 (_ : Unit) => pre2.any (loadedM pre) = false) () (by omega) (by simp (maxSteps := 1000000) (implicitDefEqProofs := false) only [ss, List.replicate, zH, qG, zF, zG, St.eval, St.put, St.get, constV, List.set, lenV, qE, qF, qB, zC, norm, xQ, look, xP, xX, zO, zM, zE, zN, qA, qI, St.alloc, St.drop, killL, kill, xU, xV, zA, upd, cells?, part, retag, xT, putIn, refFree, xR, isNew, xS, Ty.isAgg, zB, idsL, ids, idsLL, reach, depth, St.dropL, qD, resultV, ↓reduceIte, Nat.reduceBEq, Nat.reduceAdd, Nat.reduceSub, Nat.reduceMul, Nat.reduceEqDiff, Nat.reduceLeDiff, Nat.reduceLT, qJ, qK, zV, zW, qL, qM, qN, qO, Eff.ap, qP, qQ, xW, qR, zI, onto, dropO, xA, sized, zP, eqT, eqG, minV, evUn, qS, zQ, zR, zS, qC, qT, upO, evSlice0, optInt, xC, qV, xD, del, xB, plain, plainL, zY, zZ, zT, qW, zU, zX, xY, qX, qY, qZ, xE, zJ, zK, zL, xF, xG, wit, xH, Option.isSome_some, xI, qH, xJ, evPre, St.with, xK, xL, zD, xM, xN, xO, Array.size, te, einl, inls, efr]) rfl (fun _ hf => ?_) (fun pre2 n post2 _ hq2 hf y1 y2 y3 y4 => ?_)
        · rw [hf, if_neg (by decide)] at hi
          have tk9 : ((pre.map (seeM l gs)).map encK).take pre.length = (pre.map (seeM l gs)).map encK := List.take_of_length_le (by simp)
          have k87' : (orcω E X0).call 87 [.sl false ((pre.map (seeM l gs)).map encK), .clo 88 [.agg (kCells K)] []] = some (.bool ((pre.map (seeM l gs)).any (meetsK K))) := k87
          unfold kCells at k87'
          cases f2 : (pre.map (seeM l gs)).any (meetsK K) with
          | true =>
            rw [f2] at k87' hi
            rw [if_pos rfl] at hi
            simp (maxSteps := 1000000) (implicitDefEqProofs := false) only [Int.lt_irrefl, hi, k87', tk9, Try.ntmps52, Try.results52, efc52, fc52, Int.natCast_nonneg, Int.toNat_natCast, List.getElem?_map, List.length_map, ss, List.replicate, zH, qG, zF, zG, St.eval, St.put, St.get, constV, List.set, lenV, qE, qF, qB, zC, norm, xQ, look, xP, xX, zO, zM, zE, zN, qA, qI, St.alloc, St.drop, killL, kill, xU, xV, zA, upd, cells?, part, retag, xT, putIn, refFree, xR, isNew, xS, Ty.isAgg, zB, idsL, ids, idsLL, reach, depth, St.dropL, qD, resultV, ↓reduceIte, Nat.reduceBEq, Nat.reduceAdd, Nat.reduceSub, Nat.reduceMul, Nat.reduceEqDiff, Nat.reduceLeDiff, Nat.reduceLT, qJ, qK, zV, zW, qL, qM, qN, qO, Eff.ap, qP, qQ, xW, qR, zI, onto, dropO, xA, sized, zP, eqT, eqG, minV, evUn, qS, zQ, zR, zS, qC, qT, upO, evSlice0, optInt, xC, qV, xD, del, xB, plain, plainL, zY, zZ, zT, qW, zU, zX, xY, qX, qY, qZ, xE, zJ, zK, zL, xF, xG, wit, xH, Option.isSome_some, xI, qH, xJ, evPre, St.with, xK, xL, zD, xM, xN, xO, Array.size, te, einl, inls, efr]
          | false =>
            rw [f2] at k87' hi
            rw [if_neg (by decide)] at hi
            simp (maxSteps := 1000000) (implicitDefEqProofs := false) only [Int.lt_irrefl, k87', tk9, Int.natCast_nonneg, Int.toNat_natCast, List.getElem?_map, List.length_map, ss, List.replicate, zH, qG, zF, zG, St.eval, St.put, St.get, constV, List.set, lenV, qE, qF, qB, zC, norm, xQ, look, xP, xX, zO, zM, zE, zN, qA, qI, St.alloc, St.drop, killL, kill, xU, xV, zA, upd, cells?, part, retag, xT, putIn, refFree, xR, isNew, xS, Ty.isAgg, zB, idsL, ids, idsLL, reach, depth, St.dropL, qD, resultV, ↓reduceIte, Nat.reduceBEq, Nat.reduceAdd, Nat.reduceSub, Nat.reduceMul, Nat.reduceEqDiff, Nat.reduceLeDiff, Nat.reduceLT, qJ, qK, zV, zW, qL, qM, qN, qO, Eff.ap, qP, qQ, xW, qR, zI, onto, dropO, xA, sized, zP, eqT, eqG, minV, evUn, qS, zQ, zR, zS, qC, qT, upO, evSlice0, optInt, xC, qV, xD, del, xB, plain, plainL, zY, zZ, zT, qW, zU, zX, xY, qX, qY, qZ, xE, zJ, zK, zL, xF, xG, wit, xH, Option.isSome_some, xI, qH, xJ, evPre, St.with, xK, xL, zD, xM, xN, xO, Array.size, te, einl, inls, efr]
            generalize hr : loopAt _ _ _ _ _ _ = r; revert r
            refine loop_list x.goods (fun pre3 _ => [(94, .int .i64 pre3.length)]) (fun pre3 _ => [(8, { es := 1, flat := true, t := true, app := true, elems := (markB gs.length pre pre3).map V.bool })]) (fun _ (_ : Unit) => True) () (by omega) (by simp (maxSteps := 1000000) (implicitDefEqProofs := false) only [mark_nil, ss, List.replicate, zH, qG, zF, zG, St.eval, St.put, St.get, constV, List.set, lenV, qE, qF, qB, zC, norm, xQ, look, xP, xX, zO, zM, zE, zN, qA, qI, St.alloc, St.drop, killL, kill, xU, xV, zA, upd, cells?, part, retag, xT, putIn, refFree, xR, isNew, xS, Ty.isAgg, zB, idsL, ids, idsLL, reach, depth, St.dropL, qD, resultV, ↓reduceIte, Nat.reduceBEq, Nat.reduceAdd, Nat.reduceSub, Nat.reduceMul, Nat.reduceEqDiff, Nat.reduceLeDiff, Nat.reduceLT, qJ, qK, zV, zW, qL, qM, qN, qO, Eff.ap, qP, qQ, xW, qR, zI, onto, dropO, xA, sized, zP, eqT, eqG, minV, evUn, qS, zQ, zR, zS, qC, qT, upO, evSlice0, optInt, xC, qV, xD, del, xB, plain, plainL, zY, zZ, zT, qW, zU, zX, xY, qX, qY, qZ, xE, zJ, zK, zL, xF, xG, wit, xH, Option.isSome_some, xI, qH, xJ, evPre, St.with, xK, xL, zD, xM, xN, xO, Array.size, te, einl, inls, efr]) trivial (fun _ _ => ?_) (fun pre3 n post3 _ hq3 _ y1 y2 y3 y4 => ?_)
            · have hroom : roomy (pre.length + 1) 88 = true := by simp [roomy]; omega
              have hbig : pre.length + 1 ≤ 4294967296 := by omega
              have e2' : (pre.map (seeM l gs)).map encK ++ [.agg (kCells K)] = ((pre ++ [x]).map (seeM l gs)).map encK := e2
              unfold kCells at e2'
              have e3 : (pre ++ [x]).length = pre.length + 1 := by simp
              have e4 : (pre ++ [x]).isEmpty = false := by simp
              simp (maxSteps := 1000000) (implicitDefEqProofs := false) only [Int.lt_irrefl, g4, mark_all, hroom, hbig, e2', Int.natCast_nonneg, Int.toNat_natCast, List.getElem?_map, List.length_map, Bool.and_false, ss, List.replicate, zH, qG, zF, zG, St.eval, St.put, St.get, constV, List.set, lenV, qE, qF, qB, zC, norm, xQ, look, xP, xX, zO, zM, zE, zN, qA, qI, St.alloc, St.drop, killL, kill, xU, xV, zA, upd, cells?, part, retag, xT, putIn, refFree, xR, isNew, xS, Ty.isAgg, zB, idsL, ids, idsLL, reach, depth, St.dropL, qD, resultV, ↓reduceIte, Nat.reduceBEq, Nat.reduceAdd, Nat.reduceSub, Nat.reduceMul, Nat.reduceEqDiff, Nat.reduceLeDiff, Nat.reduceLT, qJ, qK, zV, zW, qL, qM, qN, qO, Eff.ap, qP, qQ, xW, qR, zI, onto, dropO, xA, sized, zP, eqT, eqG, minV, evUn, qS, zQ, zR, zS, qC, qT, upO, evSlice0, optInt, xC, qV, xD, del, xB, plain, plainL, zY, zZ, zT, qW, zU, zX, xY, qX, qY, qZ, xE, zJ, zK, zL, xF, xG, wit, xH, Option.isSome_some, xI, qH, xJ, evPre, St.with, xK, xL, zD, xM, xN, xO, Array.size, te, einl, inls, efr]
              have hd2 : plan.drop (pre.length + 1) = post := by
                rw [show pre.length + 1 = (pre ++ [x]).length from e3.symm, show plan = (pre ++ [x]) ++ post by rw [hq]; simp, List.drop_left]
              refine ⟨(), ?_⟩
              rw [e3, e4, hd2]
              exact ⟨rfl, hi⟩
            · have hz := hs n (List.mem_of_getElem? y3)
              have ms := mark_set (pre := pre) (ns := pre3) hz
              have mg := mark_get (pre := pre) (ns := pre3) hz
              simp (maxSteps := 1000000) (implicitDefEqProofs := false) only [y1, y2, y3, y4, hz.1, hz.2, ms, mg, vI_def, mark_len, Int.natCast_nonneg, Int.toNat_natCast, List.getElem?_map, List.length_map, ss, List.replicate, zH, qG, zF, zG, St.eval, St.put, St.get, constV, List.set, lenV, qE, qF, qB, zC, norm, xQ, look, xP, xX, zO, zM, zE, zN, qA, qI, St.alloc, St.drop, killL, kill, xU, xV, zA, upd, cells?, part, retag, xT, putIn, refFree, xR, isNew, xS, Ty.isAgg, zB, idsL, ids, idsLL, reach, depth, St.dropL, qD, resultV, ↓reduceIte, Nat.reduceBEq, Nat.reduceAdd, Nat.reduceSub, Nat.reduceMul, Nat.reduceEqDiff, Nat.reduceLeDiff, Nat.reduceLT, qJ, qK, zV, zW, qL, qM, qN, qO, Eff.ap, qP, qQ, xW, qR, zI, onto, dropO, xA, sized, zP, eqT, eqG, minV, evUn, qS, zQ, zR, zS, qC, qT, upO, evSlice0, optInt, xC, qV, xD, del, xB, plain, plainL, zY, zZ, zT, qW, zU, zX, xY, qX, qY, qZ, xE, zJ, zK, zL, xF, xG, wit, xH, Option.isSome_some, xI, qH, xJ, evPre, St.with, xK, xL, zD, xM, xN, xO, Array.size, te, einl, inls, efr]
              (first | exact ⟨(), trivial⟩ | refine ⟨(), ?_, trivial⟩ | skip)
        · have hz := hs n (List.mem_of_getElem? y3)
          have y5 := done_get (pre := pre) hz
          cases f : loadedM pre n with
          | true =>
            have f1 : x.goods.any (loadedM pre) = true := List.any_eq_true.2 ⟨n, List.mem_of_getElem? y3, f⟩
            rw [f1, if_pos rfl] at hi
            rw [f] at y5
            simp (maxSteps := 1000000) (implicitDefEqProofs := false) only [y1, y2, y3, y4, y5, hz.1, hz.2, hi, vI_def, done_len, Try.ntmps52, Try.results52, efc52, fc52, Int.natCast_nonneg, Int.toNat_natCast, List.getElem?_map, List.length_map, ss, List.replicate, zH, qG, zF, zG, St.eval, St.put, St.get, constV, List.set, lenV, qE, qF, qB, zC, norm, xQ, look, xP, xX, zO, zM, zE, zN, qA, qI, St.alloc, St.drop, killL, kill, xU, xV, zA, upd, cells?, part, retag, xT, putIn, refFree, xR, isNew, xS, Ty.isAgg, zB, idsL, ids, idsLL, reach, depth, St.dropL, qD, resultV, ↓reduceIte, Nat.reduceBEq, Nat.reduceAdd, Nat.reduceSub, Nat.reduceMul, Nat.reduceEqDiff, Nat.reduceLeDiff, Nat.reduceLT, qJ, qK, zV, zW, qL, qM, qN, qO, Eff.ap, qP, qQ, xW, qR, zI, onto, dropO, xA, sized, zP, eqT, eqG, minV, evUn, qS, zQ, zR, zS, qC, qT, upO, evSlice0, optInt, xC, qV, xD, del, xB, plain, plainL, zY, zZ, zT, qW, zU, zX, xY, qX, qY, qZ, xE, zJ, zK, zL, xF, xG, wit, xH, Option.isSome_some, xI, qH, xJ, evPre, St.with, xK, xL, zD, xM, xN, xO, Array.size, te, einl, inls, efr]
          | false =>
            rw [f] at y5
            simp (maxSteps := 1000000) (implicitDefEqProofs := false) only [y1, y2, y3, y4, y5, hz.1, hz.2, vI_def, done_len, Int.natCast_nonneg, Int.toNat_natCast, List.getElem?_map, List.length_map, ss, List.replicate, zH, qG, zF, zG, St.eval, St.put, St.get, constV, List.set, lenV, qE, qF, qB, zC, norm, xQ, look, xP, xX, zO, zM, zE, zN, qA, qI, St.alloc, St.drop, killL, kill, xU, xV, zA, upd, cells?, part, retag, xT, putIn, refFree, xR, isNew, xS, Ty.isAgg, zB, idsL, ids, idsLL, reach, depth, St.dropL, qD, resultV, ↓reduceIte, Nat.reduceBEq, Nat.reduceAdd, Nat.reduceSub, Nat.reduceMul, Nat.reduceEqDiff, Nat.reduceLeDiff, Nat.reduceLT, qJ, qK, zV, zW, qL, qM, qN, qO, Eff.ap, qP, qQ, xW, qR, zI, onto, dropO, xA, sized, zP, eqT, eqG, minV, evUn, qS, zQ, zR, zS, qC, qT, upO, evSlice0, optInt, xC, qV, xD, del, xB, plain, plainL, zY, zZ, zT, qW, zU, zX, xY, qX, qY, qZ, xE, zJ, zK, zL, xF, xG, wit, xH, Option.isSome_some, xI, qH, xJ, evPre, St.with, xK, xL, zD, xM, xN, xO, Array.size, te, einl, inls, efr]
            exact ⟨(), by rw [List.any_append, hf]; simp [f]⟩
      · rw [if_pos hA] at hi
        have hA' : (aloneM l gs K != 0) = true := by simpa using hA
        simp (maxSteps := 1000000) (implicitDefEqProofs := false) only [g1, g2, g3, g4, hi, hA', d4, k58, k58b, k28, k84, k85, k86, w0, Try.ntmps52, Try.results52, efc52, fc52, encLd, Int.natCast_nonneg, Int.toNat_natCast, List.getElem?_map, List.length_map, Bool.not_false, Bool.not_true, ss, List.replicate, zH, qG, zF, zG, St.eval, St.put, St.get, constV, List.set, lenV, qE, qF, qB, zC, norm, xQ, look, xP, xX, zO, zM, zE, zN, qA, qI, St.alloc, St.drop, killL, kill, xU, xV, zA, upd, cells?, part, retag, xT, putIn, refFree, xR, isNew, xS, Ty.isAgg, zB, idsL, ids, idsLL, reach, depth, St.dropL, qD, resultV, ↓reduceIte, Nat.reduceBEq, Nat.reduceAdd, Nat.reduceSub, Nat.reduceMul, Nat.reduceEqDiff, Nat.reduceLeDiff, Nat.reduceLT, qJ, qK, zV, zW, qL, qM, qN, qO, Eff.ap, qP, qQ, xW, qR, zI, onto, dropO, xA, sized, zP, eqT, eqG, minV, evUn, qS, zQ, zR, zS, qC, qT, upO, evSlice0, optInt, xC, qV, xD, del, xB, plain, plainL, zY, zZ, zT, qW, zU, zX, xY, qX, qY, qZ, xE, zJ, zK, zL, xF, xG, wit, xH, Option.isSome_some, xI, qH, xJ, evPre, St.with, xK, xL, zD, xM, xN, xO, Array.size, te, einl, inls, efr]
  · have hb' : (bothE l gs != 0) = true := by simpa using hb
    simp (maxSteps := 1000000) (implicitDefEqProofs := false) only [Try.ntmps52, Try.results52, efc52, fc52, k67, hb', ne_eq, hb, not_false_eq_true, if_true, ss, List.replicate, zH, qG, zF, zG, St.eval, St.put, St.get, constV, List.set, lenV, qE, qF, qB, zC, norm, xQ, look, xP, xX, zO, zM, zE, zN, qA, qI, St.alloc, St.drop, killL, kill, xU, xV, zA, upd, cells?, part, retag, xT, putIn, refFree, xR, isNew, xS, Ty.isAgg, zB, idsL, ids, idsLL, reach, depth, St.dropL, qD, resultV, ↓reduceIte, Nat.reduceBEq, Nat.reduceAdd, Nat.reduceSub, Nat.reduceMul, Nat.reduceEqDiff, Nat.reduceLeDiff, Nat.reduceLT, qJ, qK, zV, zW, qL, qM, qN, qO, Eff.ap, qP, qQ, xW, qR, zI, onto, dropO, xA, sized, zP, eqT, eqG, minV, evUn, qS, zQ, zR, zS, qC, qT, upO, evSlice0, optInt, xC, qV, xD, del, xB, plain, plainL, zY, zZ, zT, qW, zU, zX, xY, qX, qY, qZ, xE, zJ, zK, zL, xF, xG, wit, xH, Option.isSome_some, xI, qH, xJ, evPre, St.with, xK, xL, zD, xM, xN, xO, Array.size, te, einl, inls, efr]
end Go.AM.B

