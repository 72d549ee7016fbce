/-
The library's sort of whole numbers (at most 12 of them).
-/
import Derived.Test.YtbfgifolmpmagaaBPlanP
import Derived.Test.YtbfgifolmpmagaaAmBad
set_option linter.unusedVariables false
set_option linter.unusedSimpArgs false

namespace Go.AM.B
open Go Go.AM Go.Proofs

def isI (k : Int) (r : Option V) : Bool := match r with
  | some (.int .i64 n) => decide (n = k)
  | _ => false
theorem isI_eq {k : Int} {r : Option V} (h : isI k r = true) : r = some (.int .i64 k) := by
  unfold isI at h
  split at h
  · simp only [decide_eq_true_eq] at h
    rw [h]
  · cases h
def bitsOf (n : Nat) : Int := if n = 0 then 0 else if n = 1 then 1 else if n < 4 then 2 else if n < 8 then 3 else 4
set_option maxRecDepth 100000 in
theorem bits_runs : ((List.range 13).all fun n => isI (bitsOf n) ((orc E X0 20).call 125 [.int .u64 (n : Nat)])) = true := by decide +kernel
theorem c125 (n : Nat) (hn : n ≤ 12) : (orcω E X0).call 125 [.int .u64 n] = some (.int .i64 (bitsOf n)) :=
  (orcω_le 20).call 125 _ _ (isI_eq (List.all_eq_true.1 bits_runs n (List.mem_range.2 (by omega))))

theorem c122 (a : Int) : (orcω E X0).call 122 [.int .i64 a] = some (.bool false) := by
  refine call_of rfl fn122 rfl ?_
  simp (maxSteps := 1000000) (implicitDefEqProofs := false) only [Try.ntmps122, Try.results122, efc122, bne_self_eq_false, ss, List.replicate, zH, qG, zF, zG, St.eval, St.put, St.get, constV, List.set, lenV, qE, qF, qB, zC, norm, xQ, look, xP, xX, zO, zM, zE, zN, qA, qI, St.alloc, St.drop, killL, kill, xU, xV, zA, upd, cells?, part, retag, xT, putIn, refFree, xR, isNew, xS, Ty.isAgg, zB, idsL, ids, idsLL, reach, depth, St.dropL, qD, resultV, ↓reduceIte, Nat.reduceBEq, Nat.reduceAdd, Nat.reduceSub, Nat.reduceMul, Nat.reduceEqDiff, Nat.reduceLeDiff, Nat.reduceLT, qJ, qK, zV, zW, qL, qM, qN, qO, Eff.ap, qP, qQ, xW, qR, zI, onto, dropO, xA, sized, zP, eqT, eqG, minV, evUn, qS, zQ, zR, zS, qC, qT, upO, evSlice0, optInt, xC, qV, xD, del, xB, plain, plainL, zY, zZ, zT, qW, zU, zX, xY, qX, qY, qZ, xE, zJ, zK, zL, xF, xG, wit, xH, Option.isSome_some, xI, qH, xJ, evPre, St.with, xK, xL, zD, xM, xN, xO, Array.size, te, einl, inls, efr]
theorem c136 (a b : Int) : (orcω E X0).call 136 [.int .i64 a, .int .i64 b] = some (.bool (decide (a < b))) := by
  refine call_of rfl fn136 rfl ?_
  have k1 := c122 a
  have k2 := c122 b
  by_cases h : a < b
  · simp (maxSteps := 1000000) (implicitDefEqProofs := false) only [Try.ntmps136, Try.results136, efc136, k1, k2, h, decide_true, ss, List.replicate, zH, qG, zF, zG, St.eval, St.put, St.get, constV, List.set, lenV, qE, qF, qB, zC, norm, xQ, look, xP, xX, zO, zM, zE, zN, qA, qI, St.alloc, St.drop, killL, kill, xU, xV, zA, upd, cells?, part, retag, xT, putIn, refFree, xR, isNew, xS, Ty.isAgg, zB, idsL, ids, idsLL, reach, depth, St.dropL, qD, resultV, ↓reduceIte, Nat.reduceBEq, Nat.reduceAdd, Nat.reduceSub, Nat.reduceMul, Nat.reduceEqDiff, Nat.reduceLeDiff, Nat.reduceLT, qJ, qK, zV, zW, qL, qM, qN, qO, Eff.ap, qP, qQ, xW, qR, zI, onto, dropO, xA, sized, zP, eqT, eqG, minV, evUn, qS, zQ, zR, zS, qC, qT, upO, evSlice0, optInt, xC, qV, xD, del, xB, plain, plainL, zY, zZ, zT, qW, zU, zX, xY, qX, qY, qZ, xE, zJ, zK, zL, xF, xG, wit, xH, Option.isSome_some, xI, qH, xJ, evPre, St.with, xK, xL, zD, xM, xN, xO, Array.size, te, einl, inls, efr]
  · simp (maxSteps := 1000000) (implicitDefEqProofs := false) only [Try.ntmps136, Try.results136, efc136, k1, k2, h, decide_false, ss, List.replicate, zH, qG, zF, zG, St.eval, St.put, St.get, constV, List.set, lenV, qE, qF, qB, zC, norm, xQ, look, xP, xX, zO, zM, zE, zN, qA, qI, St.alloc, St.drop, killL, kill, xU, xV, zA, upd, cells?, part, retag, xT, putIn, refFree, xR, isNew, xS, Ty.isAgg, zB, idsL, ids, idsLL, reach, depth, St.dropL, qD, resultV, ↓reduceIte, Nat.reduceBEq, Nat.reduceAdd, Nat.reduceSub, Nat.reduceMul, Nat.reduceEqDiff, Nat.reduceLeDiff, Nat.reduceLT, qJ, qK, zV, zW, qL, qM, qN, qO, Eff.ap, qP, qQ, xW, qR, zI, onto, dropO, xA, sized, zP, eqT, eqG, minV, evUn, qS, zQ, zR, zS, qC, qT, upO, evSlice0, optInt, xC, qV, xD, del, xB, plain, plainL, zY, zZ, zT, qW, zU, zX, xY, qX, qY, qZ, xE, zJ, zK, zL, xF, xG, wit, xH, Option.isSome_some, xI, qH, xJ, evPre, St.with, xK, xL, zD, xM, xN, xO, Array.size, te, einl, inls, efr]

theorem okT130 : okCode (Try.f130.body.getD .skip) = true := by decide +kernel
set_option maxRecDepth 20000 in
set_option maxHeartbeats 8000000 in
theorem c130 (b id : Nat) (outer : List (List V)) (objs : List (Nat × Ob)) (l : List Int) (hn : l.length ≤ 1000000) (t app : Bool) (hl : look objs id = some { es := 1, flat := true, t := t, app := app, elems := l.map vI })
    (hu : upd objs id { es := 1, flat := true, t := t, app := app, elems := l.map vI } = objs) :
    ∃ sl, (orcω E X0).inl b 130 [.own id 0 l.length, .int .i64 0, .int .i64 l.length] { slots := [], outer := outer, objs := objs } = some (.tup [], { slots := sl, outer := outer, objs := upd objs id { es := 1, flat := true, t := t, app := app, elems := (isort ltI l).map vI } }) := by
  refine (fun h : ∃ sl : List V, _ = some (V.tup [], ({ slots := sl, outer := outer, objs := upd objs id { es := 1, flat := true, t := t, app := app, elems := (isort ltI l).map vI } } : St)) => h.elim fun sl h => ⟨sl, inl_of rfl fn130 rfl h⟩) ?_
  have hok := okT130
  simp only [Try.f130, Option.getD_some, okCode, Bool.and_eq_true, Bool.and_true, Bool.true_and] at hok
  obtain ⟨hk1, hk2⟩ := hok
  have q1 : IntKind.i64.wrap (0 + 1) = 1 := by decide
  simp (maxSteps := 1000000) (implicitDefEqProofs := false) only [Try.ntmps130, Try.results130, efc130, fc130, q1, ss, List.replicate, zH, qG, zF, zG, St.eval, St.put, St.get, constV, List.set, lenV, qE, qF, qB, zC, norm, xQ, look, xP, xX, zO, zM, zE, zN, qA, qI, St.alloc, St.drop, killL, kill, xU, xV, zA, upd, cells?, part, retag, xT, putIn, refFree, xR, isNew, xS, Ty.isAgg, zB, idsL, ids, idsLL, reach, depth, St.dropL, qD, resultV, ↓reduceIte, Nat.reduceBEq, Nat.reduceAdd, Nat.reduceSub, Nat.reduceMul, Nat.reduceEqDiff, Nat.reduceLeDiff, Nat.reduceLT, qJ, qK, zV, zW, qL, qM, qN, qO, Eff.ap, qP, qQ, xW, qR, zI, onto, dropO, xA, sized, zP, eqT, eqG, minV, evUn, qS, zQ, zR, zS, qC, qT, upO, evSlice0, optInt, xC, qV, xD, del, xB, plain, plainL, zY, zZ, zT, qW, zU, zX, xY, qX, qY, qZ, xE, zJ, zK, zL, xF, xG, wit, xH, Option.isSome_some, xI, qH, xJ, evPre, St.with, xK, xL, zD, xM, xN, xO, Array.size, te, einl, inls, efr]
  generalize hr : loopAt _ _ _ _ _ _ = r; revert r
  refine loop_inv (ι := { k : Nat // k = 0 ∨ k < l.length }) (fun k => [(6, .int .i64 ((k.1 + 1 : Nat) : Int))]) (fun k => [(id, { es := 1, flat := true, t := t, app := app, elems := (isortTo ltI l k.1).map vI })]) (fun k => l.length - k.1) ⟨0, .inl rfl⟩ (by simp (maxSteps := 1000000) (implicitDefEqProofs := false) only [isortTo, hu, Int.natCast_zero, Int.natCast_one, Nat.zero_add, ss, List.replicate, zH, qG, zF, zG, St.eval, St.put, St.get, constV, List.set, lenV, qE, qF, qB, zC, norm, xQ, look, xP, xX, zO, zM, zE, zN, qA, qI, St.alloc, St.drop, killL, kill, xU, xV, zA, upd, cells?, part, retag, xT, putIn, refFree, xR, isNew, xS, Ty.isAgg, zB, idsL, ids, idsLL, reach, depth, St.dropL, qD, resultV, ↓reduceIte, Nat.reduceBEq, Nat.reduceAdd, Nat.reduceSub, Nat.reduceMul, Nat.reduceEqDiff, Nat.reduceLeDiff, Nat.reduceLT, qJ, qK, zV, zW, qL, qM, qN, qO, Eff.ap, qP, qQ, xW, qR, zI, onto, dropO, xA, sized, zP, eqT, eqG, minV, evUn, qS, zQ, zR, zS, qC, qT, upO, evSlice0, optInt, xC, qV, xD, del, xB, plain, plainL, zY, zZ, zT, qW, zU, zX, xY, qX, qY, qZ, xE, zJ, zK, zL, xF, xG, wit, xH, Option.isSome_some, xI, qH, xJ, evPre, St.with, xK, xL, zD, xM, xN, xO, Array.size, te, einl, inls, efr]) ?_
  rintro ⟨k, hk⟩
  dsimp only
  by_cases hlt : ((k + 1 : Nat) : Int) < l.length
  rotate_left
  · have e1 : isort ltI l = isortTo ltI l k := by
      unfold isort
      congr 1
      omega
    rw [e1]
    simp (maxSteps := 1000000) (implicitDefEqProofs := false) only [hlt, Try.ntmps130, Try.results130, efc130, fc130, ss, List.replicate, zH, qG, zF, zG, St.eval, St.put, St.get, constV, List.set, lenV, qE, qF, qB, zC, norm, xQ, look, xP, xX, zO, zM, zE, zN, qA, qI, St.alloc, St.drop, killL, kill, xU, xV, zA, upd, cells?, part, retag, xT, putIn, refFree, xR, isNew, xS, Ty.isAgg, zB, idsL, ids, idsLL, reach, depth, St.dropL, qD, resultV, ↓reduceIte, Nat.reduceBEq, Nat.reduceAdd, Nat.reduceSub, Nat.reduceMul, Nat.reduceEqDiff, Nat.reduceLeDiff, Nat.reduceLT, qJ, qK, zV, zW, qL, qM, qN, qO, Eff.ap, qP, qQ, xW, qR, zI, onto, dropO, xA, sized, zP, eqT, eqG, minV, evUn, qS, zQ, zR, zS, qC, qT, upO, evSlice0, optInt, xC, qV, xD, del, xB, plain, plainL, zY, zZ, zT, qW, zU, zX, xY, qX, qY, qZ, xE, zJ, zK, zL, xF, xG, wit, xH, Option.isSome_some, xI, qH, xJ, evPre, St.with, xK, xL, zD, xM, xN, xO, Array.size, te, einl, inls, efr]
    exact ⟨_, rfl⟩
  have w1 : IntKind.i64.wrap (((k + 1 : Nat) : Int) + 1) = ((k + 1 + 1 : Nat) : Int) := by rw [wrap_in (by omega)]; omega
  have ln := isortTo_len (lt := ltI) l k
  have hst : isortTo ltI l (k + 1) = bub ltI (k + 1) (isortTo ltI l k) := rfl
  simp (maxSteps := 1000000) (implicitDefEqProofs := false) only [hlt, look_upd_same, upd_upd, ss, List.replicate, zH, qG, zF, zG, St.eval, St.put, St.get, constV, List.set, lenV, qE, qF, qB, zC, norm, xQ, look, xP, xX, zO, zM, zE, zN, qA, qI, St.alloc, St.drop, killL, kill, xU, xV, zA, upd, cells?, part, retag, xT, putIn, refFree, xR, isNew, xS, Ty.isAgg, zB, idsL, ids, idsLL, reach, depth, St.dropL, qD, resultV, ↓reduceIte, Nat.reduceBEq, Nat.reduceAdd, Nat.reduceSub, Nat.reduceMul, Nat.reduceEqDiff, Nat.reduceLeDiff, Nat.reduceLT, qJ, qK, zV, zW, qL, qM, qN, qO, Eff.ap, qP, qQ, xW, qR, zI, onto, dropO, xA, sized, zP, eqT, eqG, minV, evUn, qS, zQ, zR, zS, qC, qT, upO, evSlice0, optInt, xC, qV, xD, del, xB, plain, plainL, zY, zZ, zT, qW, zU, zX, xY, qX, qY, qZ, xE, zJ, zK, zL, xF, xG, wit, xH, Option.isSome_some, xI, qH, xJ, evPre, St.with, xK, xL, zD, xM, xN, xO, Array.size, te, einl, inls, efr]
  generalize hr : loopAt _ _ _ _ _ _ = r; revert r
  refine loop_inv (ι := { p : Nat × List Int // bub ltI p.1 p.2 = isortTo ltI l (k + 1) ∧ p.2.length = l.length ∧ p.1 < l.length }) (fun p => [(7, .int .i64 (p.1.1 : Nat))]) (fun p => [(id, { es := 1, flat := true, t := t, app := app, elems := p.1.2.map vI })]) (fun p => p.1.1) ⟨(k + 1, isortTo ltI l k), hst.symm, ln, by dsimp only; omega⟩ (by simp (maxSteps := 1000000) (implicitDefEqProofs := false) only [upd_upd, ss, List.replicate, zH, qG, zF, zG, St.eval, St.put, St.get, constV, List.set, lenV, qE, qF, qB, zC, norm, xQ, look, xP, xX, zO, zM, zE, zN, qA, qI, St.alloc, St.drop, killL, kill, xU, xV, zA, upd, cells?, part, retag, xT, putIn, refFree, xR, isNew, xS, Ty.isAgg, zB, idsL, ids, idsLL, reach, depth, St.dropL, qD, resultV, ↓reduceIte, Nat.reduceBEq, Nat.reduceAdd, Nat.reduceSub, Nat.reduceMul, Nat.reduceEqDiff, Nat.reduceLeDiff, Nat.reduceLT, qJ, qK, zV, zW, qL, qM, qN, qO, Eff.ap, qP, qQ, xW, qR, zI, onto, dropO, xA, sized, zP, eqT, eqG, minV, evUn, qS, zQ, zR, zS, qC, qT, upO, evSlice0, optInt, xC, qV, xD, del, xB, plain, plainL, zY, zZ, zT, qW, zU, zX, xY, qX, qY, qZ, xE, zJ, zK, zL, xF, xG, wit, xH, Option.isSome_some, xI, qH, xJ, evPre, St.with, xK, xL, zD, xM, xN, xO, Array.size, te, einl, inls, efr]) ?_
  rintro ⟨⟨j, m⟩, hb, hlm, hj⟩
  dsimp only at hb hlm hj ⊢
  cases j with
  | zero =>
    have e1 : m = isortTo ltI l (k + 1) := hb
    subst e1
    simp (maxSteps := 1000000) (implicitDefEqProofs := false) only [Int.natCast_zero, Int.lt_irrefl, look_upd_same, upd_upd, evRegion_st hk1, w1, ss, List.replicate, zH, qG, zF, zG, St.eval, St.put, St.get, constV, List.set, lenV, qE, qF, qB, zC, norm, xQ, look, xP, xX, zO, zM, zE, zN, qA, qI, St.alloc, St.drop, killL, kill, xU, xV, zA, upd, cells?, part, retag, xT, putIn, refFree, xR, isNew, xS, Ty.isAgg, zB, idsL, ids, idsLL, reach, depth, St.dropL, qD, resultV, ↓reduceIte, Nat.reduceBEq, Nat.reduceAdd, Nat.reduceSub, Nat.reduceMul, Nat.reduceEqDiff, Nat.reduceLeDiff, Nat.reduceLT, qJ, qK, zV, zW, qL, qM, qN, qO, Eff.ap, qP, qQ, xW, qR, zI, onto, dropO, xA, sized, zP, eqT, eqG, minV, evUn, qS, zQ, zR, zS, qC, qT, upO, evSlice0, optInt, xC, qV, xD, del, xB, plain, plainL, zY, zZ, zT, qW, zU, zX, xY, qX, qY, qZ, xE, zJ, zK, zL, xF, xG, wit, xH, Option.isSome_some, xI, qH, xJ, evPre, St.with, xK, xL, zD, xM, xN, xO, Array.size, te, einl, inls, efr]
    exact ⟨⟨k + 1, by omega⟩, rfl, by dsimp only; omega⟩
  | succ j =>
    have gx : m[j + 1]? = some (m[j + 1]'(by omega)) := List.getElem?_eq_getElem _
    have gy : m[j]? = some (m[j]'(by omega)) := List.getElem?_eq_getElem _
    generalize m[j + 1]'(by omega) = x at *
    generalize m[j]'(by omega) = y at *
    have k1 := c136 x y
    have p0 : (0 : Int) < ((j + 1 : Nat) : Int) := by omega
    have w2 : IntKind.i64.wrap (((j + 1 : Nat) : Int) - 1) = (j : Nat) := by rw [wrap_in (by omega)]; omega
    have u1 : ((j + 1 : Nat) : Int) < l.length := by omega
    have u2 : (j : Int) < l.length := by omega
    by_cases hxy : x < y
    rotate_left
    · have e1 : m = isortTo ltI l (k + 1) := by rw [← hb, bub_stop gx gy (by rw [ltI_iff]; exact hxy)]
      rw [decide_eq_false hxy] at k1
      subst e1
      simp (maxSteps := 1000000) (implicitDefEqProofs := false) only [p0, w2, u1, u2, gx, gy, k1, vI, look_upd_same, upd_upd, evRegion_st hk1, w1, Int.natCast_nonneg, Int.toNat_natCast, List.getElem?_map, ss, List.replicate, zH, qG, zF, zG, St.eval, St.put, St.get, constV, List.set, lenV, qE, qF, qB, zC, norm, xQ, look, xP, xX, zO, zM, zE, zN, qA, qI, St.alloc, St.drop, killL, kill, xU, xV, zA, upd, cells?, part, retag, xT, putIn, refFree, xR, isNew, xS, Ty.isAgg, zB, idsL, ids, idsLL, reach, depth, St.dropL, qD, resultV, ↓reduceIte, Nat.reduceBEq, Nat.reduceAdd, Nat.reduceSub, Nat.reduceMul, Nat.reduceEqDiff, Nat.reduceLeDiff, Nat.reduceLT, qJ, qK, zV, zW, qL, qM, qN, qO, Eff.ap, qP, qQ, xW, qR, zI, onto, dropO, xA, sized, zP, eqT, eqG, minV, evUn, qS, zQ, zR, zS, qC, qT, upO, evSlice0, optInt, xC, qV, xD, del, xB, plain, plainL, zY, zZ, zT, qW, zU, zX, xY, qX, qY, qZ, xE, zJ, zK, zL, xF, xG, wit, xH, Option.isSome_some, xI, qH, xJ, evPre, St.with, xK, xL, zD, xM, xN, xO, Array.size, te, einl, inls, efr]
      exact ⟨⟨k + 1, by omega⟩, rfl, by dsimp only; omega⟩
    · have e1 := bub_step gx gy (ltI_iff.2 hxy)
      rw [decide_eq_true hxy] at k1
      have g3 : ((m.map vI).set (j + 1) (.int .i64 y)).set j (.int .i64 x) = ((m.set (j + 1) y).set j x).map vI := by rw [List.map_set, List.map_set]; rfl
      have g4 : ((m.map vI).set (j + 1) (.int .i64 y))[j]? = some (.int .i64 y) := by
        rw [List.getElem?_set_ne (by omega), List.getElem?_map, gy]; rfl
      simp (maxSteps := 1000000) (implicitDefEqProofs := false) only [p0, w2, u1, u2, gx, gy, g3, g4, k1, vI, look_upd_same, upd_upd, evRegion_st hk1, evRegion_st hk2, w1, Int.natCast_nonneg, Int.toNat_natCast, List.getElem?_map, ss, List.replicate, zH, qG, zF, zG, St.eval, St.put, St.get, constV, List.set, lenV, qE, qF, qB, zC, norm, xQ, look, xP, xX, zO, zM, zE, zN, qA, qI, St.alloc, St.drop, killL, kill, xU, xV, zA, upd, cells?, part, retag, xT, putIn, refFree, xR, isNew, xS, Ty.isAgg, zB, idsL, ids, idsLL, reach, depth, St.dropL, qD, resultV, ↓reduceIte, Nat.reduceBEq, Nat.reduceAdd, Nat.reduceSub, Nat.reduceMul, Nat.reduceEqDiff, Nat.reduceLeDiff, Nat.reduceLT, qJ, qK, zV, zW, qL, qM, qN, qO, Eff.ap, qP, qQ, xW, qR, zI, onto, dropO, xA, sized, zP, eqT, eqG, minV, evUn, qS, zQ, zR, zS, qC, qT, upO, evSlice0, optInt, xC, qV, xD, del, xB, plain, plainL, zY, zZ, zT, qW, zU, zX, xY, qX, qY, qZ, xE, zJ, zK, zL, xF, xG, wit, xH, Option.isSome_some, xI, qH, xJ, evPre, St.with, xK, xL, zD, xM, xN, xO, Array.size, te, einl, inls, efr]
      exact ⟨⟨(j, (m.set (j + 1) y).set j x), by rw [← hb, e1], by dsimp only; simp [hlm], by dsimp only; omega⟩, rfl, by dsimp only; omega⟩

set_option maxRecDepth 20000 in
set_option maxHeartbeats 8000000 in
theorem c124 (b id : Nat) (outer : List (List V)) (objs : List (Nat × Ob)) (l : List Int) (hn : l.length ≤ 12) (lim : Int) (t app : Bool) (hl : look objs id = some { es := 1, flat := true, t := t, app := app, elems := l.map vI })
    (hu : upd objs id { es := 1, flat := true, t := t, app := app, elems := l.map vI } = objs) :
    ∃ sl, (orcω E X0).inl b 124 [.own id 0 l.length, .int .i64 0, .int .i64 l.length, .int .i64 lim] { slots := [], outer := outer, objs := objs } = some (.tup [], { slots := sl, outer := outer, objs := upd objs id { es := 1, flat := true, t := t, app := app, elems := (isort ltI l).map vI } }) := by
  refine (fun h : ∃ sl : List V, _ = some (V.tup [], ({ slots := sl, outer := outer, objs := upd objs id { es := 1, flat := true, t := t, app := app, elems := (isort ltI l).map vI } } : St)) => h.elim fun sl h => ⟨sl, inl_of rfl fn124 rfl h⟩) ?_
  have k1 := fun b outer => c130 b id outer objs l (by omega) t app hl hu
  obtain ⟨f, k2⟩ : ∃ f : Nat → List (List V) → List V, ∀ b outer, (orcω E X0).inl b 130 [.own id 0 l.length, .int .i64 0, .int .i64 l.length] { slots := [], outer := outer, objs := objs } = some (.tup [], { slots := f b outer, outer := outer, objs := upd objs id { es := 1, flat := true, t := t, app := app, elems := (isort ltI l).map vI } }) :=
    ⟨fun b o => (k1 b o).choose, fun b o => (k1 b o).choose_spec⟩
  have w1 : IntKind.i64.wrap ((l.length : Int) - 0) = l.length := by rw [wrap_in (by omega)]; omega
  have h12 : (l.length : Int) ≤ 12 := by omega
  simp (maxSteps := 1000000) (implicitDefEqProofs := false) only [Try.ntmps124, Try.results124, efc124, fc124, ss, List.replicate, zH, qG, zF, zG, St.eval, St.put, St.get, constV, List.set, lenV, qE, qF, qB, zC, norm, xQ, look, xP, xX, zO, zM, zE, zN, qA, qI, St.alloc, St.drop, killL, kill, xU, xV, zA, upd, cells?, part, retag, xT, putIn, refFree, xR, isNew, xS, Ty.isAgg, zB, idsL, ids, idsLL, reach, depth, St.dropL, qD, resultV, ↓reduceIte, Nat.reduceBEq, Nat.reduceAdd, Nat.reduceSub, Nat.reduceMul, Nat.reduceEqDiff, Nat.reduceLeDiff, Nat.reduceLT, qJ, qK, zV, zW, qL, qM, qN, qO, Eff.ap, qP, qQ, xW, qR, zI, onto, dropO, xA, sized, zP, eqT, eqG, minV, evUn, qS, zQ, zR, zS, qC, qT, upO, evSlice0, optInt, xC, qV, xD, del, xB, plain, plainL, zY, zZ, zT, qW, zU, zX, xY, qX, qY, qZ, xE, zJ, zK, zL, xF, xG, wit, xH, Option.isSome_some, xI, qH, xJ, evPre, St.with, xK, xL, zD, xM, xN, xO, Array.size, te, einl, inls, efr]
  generalize hr : loopAt _ _ _ _ _ _ = r; revert r
  refine loop_inv (ι := Unit) (fun _ => []) (fun _ => []) (fun _ => 0) () (by simp (maxSteps := 1000000) (implicitDefEqProofs := false) only [ss, List.replicate, zH, qG, zF, zG, St.eval, St.put, St.get, constV, List.set, lenV, qE, qF, qB, zC, norm, xQ, look, xP, xX, zO, zM, zE, zN, qA, qI, St.alloc, St.drop, killL, kill, xU, xV, zA, upd, cells?, part, retag, xT, putIn, refFree, xR, isNew, xS, Ty.isAgg, zB, idsL, ids, idsLL, reach, depth, St.dropL, qD, resultV, ↓reduceIte, Nat.reduceBEq, Nat.reduceAdd, Nat.reduceSub, Nat.reduceMul, Nat.reduceEqDiff, Nat.reduceLeDiff, Nat.reduceLT, qJ, qK, zV, zW, qL, qM, qN, qO, Eff.ap, qP, qQ, xW, qR, zI, onto, dropO, xA, sized, zP, eqT, eqG, minV, evUn, qS, zQ, zR, zS, qC, qT, upO, evSlice0, optInt, xC, qV, xD, del, xB, plain, plainL, zY, zZ, zT, qW, zU, zX, xY, qX, qY, qZ, xE, zJ, zK, zL, xF, xG, wit, xH, Option.isSome_some, xI, qH, xJ, evPre, St.with, xK, xL, zD, xM, xN, xO, Array.size, te, einl, inls, efr]) ?_
  intro _
  simp (maxSteps := 1000000) (implicitDefEqProofs := false) only [w1, h12, k2, Try.ntmps124, Try.results124, efc124, fc124, ss, List.replicate, zH, qG, zF, zG, St.eval, St.put, St.get, constV, List.set, lenV, qE, qF, qB, zC, norm, xQ, look, xP, xX, zO, zM, zE, zN, qA, qI, St.alloc, St.drop, killL, kill, xU, xV, zA, upd, cells?, part, retag, xT, putIn, refFree, xR, isNew, xS, Ty.isAgg, zB, idsL, ids, idsLL, reach, depth, St.dropL, qD, resultV, ↓reduceIte, Nat.reduceBEq, Nat.reduceAdd, Nat.reduceSub, Nat.reduceMul, Nat.reduceEqDiff, Nat.reduceLeDiff, Nat.reduceLT, qJ, qK, zV, zW, qL, qM, qN, qO, Eff.ap, qP, qQ, xW, qR, zI, onto, dropO, xA, sized, zP, eqT, eqG, minV, evUn, qS, zQ, zR, zS, qC, qT, upO, evSlice0, optInt, xC, qV, xD, del, xB, plain, plainL, zY, zZ, zT, qW, zU, zX, xY, qX, qY, qZ, xE, zJ, zK, zL, xF, xG, wit, xH, Option.isSome_some, xI, qH, xJ, evPre, St.with, xK, xL, zD, xM, xN, xO, Array.size, te, einl, inls, efr]
  exact ⟨_, rfl⟩

set_option maxRecDepth 20000 in
set_option maxHeartbeats 8000000 in
theorem c101 (b id : Nat) (outer : List (List V)) (objs : List (Nat × Ob)) (l : List Int) (hn : l.length ≤ 12) (t app : Bool) (hl : look objs id = some { es := 1, flat := true, t := t, app := app, elems := l.map vI })
    (hu : upd objs id { es := 1, flat := true, t := t, app := app, elems := l.map vI } = objs) :
    ∃ sl, (orcω E X0).inl b 101 [.own id 0 l.length] { slots := [], outer := outer, objs := objs } = some (.tup [], { slots := sl, outer := outer, objs := upd objs id { es := 1, flat := true, t := t, app := app, elems := (isort ltI l).map vI } }) := by
  refine (fun h : ∃ sl : List V, _ = some (V.tup [], ({ slots := sl, outer := outer, objs := upd objs id { es := 1, flat := true, t := t, app := app, elems := (isort ltI l).map vI } } : St)) => h.elim fun sl h => ⟨sl, inl_of rfl fn101 rfl h⟩) ?_
  have k0 := c125 l.length hn
  have k1 := fun b outer => c124 b id outer objs l hn (bitsOf l.length) t app hl hu
  obtain ⟨f, k2⟩ : ∃ f : Nat → List (List V) → List V, ∀ b outer, (orcω E X0).inl b 124 [.own id 0 l.length, .int .i64 0, .int .i64 l.length, .int .i64 (bitsOf l.length)] { slots := [], outer := outer, objs := objs } = some (.tup [], { slots := f b outer, outer := outer, objs := upd objs id { es := 1, flat := true, t := t, app := app, elems := (isort ltI l).map vI } }) :=
    ⟨fun b o => (k1 b o).choose, fun b o => (k1 b o).choose_spec⟩
  have w1 : IntKind.u64.wrap (l.length : Int) = l.length := IntWalk.u64_in _ (by omega)
  simp (maxSteps := 1000000) (implicitDefEqProofs := false) only [Try.ntmps101, Try.results101, efc101, w1, k0, k2, ss, List.replicate, zH, qG, zF, zG, St.eval, St.put, St.get, constV, List.set, lenV, qE, qF, qB, zC, norm, xQ, look, xP, xX, zO, zM, zE, zN, qA, qI, St.alloc, St.drop, killL, kill, xU, xV, zA, upd, cells?, part, retag, xT, putIn, refFree, xR, isNew, xS, Ty.isAgg, zB, idsL, ids, idsLL, reach, depth, St.dropL, qD, resultV, ↓reduceIte, Nat.reduceBEq, Nat.reduceAdd, Nat.reduceSub, Nat.reduceMul, Nat.reduceEqDiff, Nat.reduceLeDiff, Nat.reduceLT, qJ, qK, zV, zW, qL, qM, qN, qO, Eff.ap, qP, qQ, xW, qR, zI, onto, dropO, xA, sized, zP, eqT, eqG, minV, evUn, qS, zQ, zR, zS, qC, qT, upO, evSlice0, optInt, xC, qV, xD, del, xB, plain, plainL, zY, zZ, zT, qW, zU, zX, xY, qX, qY, qZ, xE, zJ, zK, zL, xF, xG, wit, xH, Option.isSome_some, xI, qH, xJ, evPre, St.with, xK, xL, zD, xM, xN, xO, Array.size, te, einl, inls, efr]
  exact ⟨_, rfl⟩
end Go.AM.B

