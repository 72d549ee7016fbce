/-
slices.SortStableFunc of goods' numbers, by their due days (at most 20 of them).
-/
import Derived.Test.YtbfgifolmpmagaaBSort
set_option linter.unusedVariables false
set_option linter.unusedSimpArgs false

namespace Go.AM.B
open Go Go.AM Go.Proofs

def cmpI (a b : Int) : Int := if a < b then -1 else if b < a then 1 else 0
theorem c96 (a b : Int) : (orcω E X0).call 96 [.int .i64 a, .int .i64 b] = some (.int .i64 (cmpI a b)) := by
  refine call_of rfl fn96 rfl ?_
  have k1 := c122 a
  have k2 := c122 b
  unfold cmpI
  by_cases h1 : a < b
  · simp (maxSteps := 1000000) (implicitDefEqProofs := false) only [Try.ntmps96, Try.results96, efc96, k1, k2, h1, ↓reduceIte, ss, List.replicate, zH, qG, zF, zG, St.eval, St.put, St.get, constV, List.set, lenV, qE, qF, qB, zC, norm, xQ, look, xP, xX, zO, zM, zE, zN, qA, qI, St.alloc, St.drop, killL, kill, xU, xV, zA, upd, cells?, part, retag, xT, putIn, refFree, xR, isNew, xS, Ty.isAgg, zB, idsL, ids, idsLL, reach, depth, St.dropL, qD, resultV, ↓reduceIte, Nat.reduceBEq, Nat.reduceAdd, Nat.reduceSub, Nat.reduceMul, Nat.reduceEqDiff, Nat.reduceLeDiff, Nat.reduceLT, qJ, qK, zV, zW, qL, qM, qN, qO, Eff.ap, qP, qQ, xW, qR, zI, onto, dropO, xA, sized, zP, eqT, eqG, minV, evUn, qS, zQ, zR, zS, qC, qT, upO, evSlice0, optInt, xC, qV, xD, del, xB, plain, plainL, zY, zZ, zT, qW, zU, zX, xY, qX, qY, qZ, xE, zJ, zK, zL, xF, xG, wit, xH, Option.isSome_some, xI, qH, xJ, evPre, St.with, xK, xL, zD, xM, xN, xO, Array.size, te, einl, inls, efr]
  · by_cases h2 : b < a
    · simp (maxSteps := 1000000) (implicitDefEqProofs := false) only [Try.ntmps96, Try.results96, efc96, k1, k2, h1, h2, ↓reduceIte, ss, List.replicate, zH, qG, zF, zG, St.eval, St.put, St.get, constV, List.set, lenV, qE, qF, qB, zC, norm, xQ, look, xP, xX, zO, zM, zE, zN, qA, qI, St.alloc, St.drop, killL, kill, xU, xV, zA, upd, cells?, part, retag, xT, putIn, refFree, xR, isNew, xS, Ty.isAgg, zB, idsL, ids, idsLL, reach, depth, St.dropL, qD, resultV, ↓reduceIte, Nat.reduceBEq, Nat.reduceAdd, Nat.reduceSub, Nat.reduceMul, Nat.reduceEqDiff, Nat.reduceLeDiff, Nat.reduceLT, qJ, qK, zV, zW, qL, qM, qN, qO, Eff.ap, qP, qQ, xW, qR, zI, onto, dropO, xA, sized, zP, eqT, eqG, minV, evUn, qS, zQ, zR, zS, qC, qT, upO, evSlice0, optInt, xC, qV, xD, del, xB, plain, plainL, zY, zZ, zT, qW, zU, zX, xY, qX, qY, qZ, xE, zJ, zK, zL, xF, xG, wit, xH, Option.isSome_some, xI, qH, xJ, evPre, St.with, xK, xL, zD, xM, xN, xO, Array.size, te, einl, inls, efr]
    · simp (maxSteps := 1000000) (implicitDefEqProofs := false) only [Try.ntmps96, Try.results96, efc96, k1, k2, h1, h2, ↓reduceIte, ss, List.replicate, zH, qG, zF, zG, St.eval, St.put, St.get, constV, List.set, lenV, qE, qF, qB, zC, norm, xQ, look, xP, xX, zO, zM, zE, zN, qA, qI, St.alloc, St.drop, killL, kill, xU, xV, zA, upd, cells?, part, retag, xT, putIn, refFree, xR, isNew, xS, Ty.isAgg, zB, idsL, ids, idsLL, reach, depth, St.dropL, qD, resultV, ↓reduceIte, Nat.reduceBEq, Nat.reduceAdd, Nat.reduceSub, Nat.reduceMul, Nat.reduceEqDiff, Nat.reduceLeDiff, Nat.reduceLT, qJ, qK, zV, zW, qL, qM, qN, qO, Eff.ap, qP, qQ, xW, qR, zI, onto, dropO, xA, sized, zP, eqT, eqG, minV, evUn, qS, zQ, zR, zS, qC, qT, upO, evSlice0, optInt, xC, qV, xD, del, xB, plain, plainL, zY, zZ, zT, qW, zU, zX, xY, qX, qY, qZ, xE, zJ, zK, zL, xF, xG, wit, xH, Option.isSome_some, xI, qH, xJ, evPre, St.with, xK, xL, zD, xM, xN, xO, Array.size, te, einl, inls, efr]

def dueK (gs : List Goods) (n : Int) : Int := (goodAt gs n).due
def ltD (gs : List Goods) : Int → Int → Bool := ltK (dueK gs)
def cmpD (gs : List Goods) (x y : Int) : Int := cmpI (dueK gs x) (dueK gs y)
theorem lt_cmpD {gs : List Goods} {x y : Int} : ltD gs x y = true ↔ cmpD gs x y < 0 := by
  unfold ltD ltK cmpD cmpI
  rw [decide_eq_true_eq]
  split
  · omega
  · split <;> omega

theorem okT95 : okCode (Try.f95.body.getD .skip) = true := by decide +kernel
theorem c95 (gs : List Goods) (x y : Int) (hx : 0 ≤ x ∧ x < gs.length) (hy : 0 ≤ y ∧ y < gs.length) : (orcω E X0).call 95 [.int .i64 x, .int .i64 y, .fp false [.sl false (gs.map encG)] 0] = some (.int .i64 (cmpD gs x y)) := by
  refine call_of rfl fn95 rfl ?_
  have hok := okT95
  simp only [Try.f95, Option.getD_some, okCode, Bool.and_eq_true, Bool.and_true, Bool.true_and] at hok
  have k1 := c96 (goodAt gs x).due (goodAt gs y).due
  have g1 := goodAt_get hx.1 hx.2
  have g2 := goodAt_get hy.1 hy.2
  unfold cmpD dueK
  simp (maxSteps := 1000000) (implicitDefEqProofs := false) only [Try.ntmps95, Try.results95, efc95, k1, g1, g2, hx.1, hx.2, hy.1, hy.2, encG, List.getElem?_map, List.length_map, evRegion_st hok, ss, List.replicate, zH, qG, zF, zG, St.eval, St.put, St.get, constV, List.set, lenV, qE, qF, qB, zC, norm, xQ, look, xP, xX, zO, zM, zE, zN, qA, qI, St.alloc, St.drop, killL, kill, xU, xV, zA, upd, cells?, part, retag, xT, putIn, refFree, xR, isNew, xS, Ty.isAgg, zB, idsL, ids, idsLL, reach, depth, St.dropL, qD, resultV, ↓reduceIte, Nat.reduceBEq, Nat.reduceAdd, Nat.reduceSub, Nat.reduceMul, Nat.reduceEqDiff, Nat.reduceLeDiff, Nat.reduceLT, qJ, qK, zV, zW, qL, qM, qN, qO, Eff.ap, qP, qQ, xW, qR, zI, onto, dropO, xA, sized, zP, eqT, eqG, minV, evUn, qS, zQ, zR, zS, qC, qT, upO, evSlice0, optInt, xC, qV, xD, del, xB, plain, plainL, zY, zZ, zT, qW, zU, zX, xY, qX, qY, qZ, xE, zJ, zK, zL, xF, xG, wit, xH, Option.isSome_some, xI, qH, xJ, evPre, St.with, xK, xL, zD, xM, xN, xO, Array.size, te, einl, inls, efr]

def obG (gs : List Goods) : Ob := { es := 1, flat := true, t := false, app := false, elems := [.sl false (gs.map encG)] }

theorem okT128 : okCode (Try.f128.body.getD .skip) = true := by decide +kernel
set_option maxRecDepth 20000 in
set_option maxHeartbeats 8000000 in
theorem c128 (b id pid : Nat) (outer : List (List V)) (objs : List (Nat × Ob)) (gs : List Goods) (l : List Int) (hn : l.length ≤ 1000000) (t app : Bool) (hl : look objs id = some { es := 1, flat := true, t := t, app := app, elems := l.map vI })
    (hu : upd objs id { es := 1, flat := true, t := t, app := app, elems := l.map vI } = objs) (hp : ∀ X, look (upd objs id X) pid = some (obG gs)) (hr : ∀ x ∈ l, 0 ≤ x ∧ x < gs.length) :
    ∃ sl, (orcω E X0).inl b 128 [.own id 0 l.length, .int .i64 0, .int .i64 l.length, .clo 95 [] [.ptr pid 0 0]] { slots := [], outer := outer, objs := objs } = some (.tup [], { slots := sl, outer := outer, objs := upd objs id { es := 1, flat := true, t := t, app := app, elems := (isort (ltD gs) l).map vI } }) := by
  refine (fun h : ∃ sl : List V, _ = some (V.tup [], ({ slots := sl, outer := outer, objs := upd objs id { es := 1, flat := true, t := t, app := app, elems := (isort (ltD gs) l).map vI } } : St)) => h.elim fun sl h => ⟨sl, inl_of rfl fn128 rfl h⟩) ?_
  have hok := okT128
  simp only [Try.f128, Option.getD_some, okCode, Bool.and_eq_true, Bool.and_true, Bool.true_and] at hok
  obtain ⟨hk1, hk2⟩ := hok
  unfold obG at hp
  have q1 : IntKind.i64.wrap (0 + 1) = 1 := by decide
  simp (maxSteps := 1000000) (implicitDefEqProofs := false) only [Try.ntmps128, Try.results128, efc128, fc128, q1, ss, List.replicate, zH, qG, zF, zG, St.eval, St.put, St.get, constV, List.set, lenV, qE, qF, qB, zC, norm, xQ, look, xP, xX, zO, zM, zE, zN, qA, qI, St.alloc, St.drop, killL, kill, xU, xV, zA, upd, cells?, part, retag, xT, putIn, refFree, xR, isNew, xS, Ty.isAgg, zB, idsL, ids, idsLL, reach, depth, St.dropL, qD, resultV, ↓reduceIte, Nat.reduceBEq, Nat.reduceAdd, Nat.reduceSub, Nat.reduceMul, Nat.reduceEqDiff, Nat.reduceLeDiff, Nat.reduceLT, qJ, qK, zV, zW, qL, qM, qN, qO, Eff.ap, qP, qQ, xW, qR, zI, onto, dropO, xA, sized, zP, eqT, eqG, minV, evUn, qS, zQ, zR, zS, qC, qT, upO, evSlice0, optInt, xC, qV, xD, del, xB, plain, plainL, zY, zZ, zT, qW, zU, zX, xY, qX, qY, qZ, xE, zJ, zK, zL, xF, xG, wit, xH, Option.isSome_some, xI, qH, xJ, evPre, St.with, xK, xL, zD, xM, xN, xO, Array.size, te, einl, inls, efr]
  generalize hr : loopAt _ _ _ _ _ _ = r; revert r
  refine loop_inv (ι := { k : Nat // k = 0 ∨ k < l.length }) (fun k => [(8, .int .i64 ((k.1 + 1 : Nat) : Int))]) (fun k => [(id, { es := 1, flat := true, t := t, app := app, elems := (isortTo (ltD gs) l k.1).map vI })]) (fun k => l.length - k.1) ⟨0, .inl rfl⟩ (by simp (maxSteps := 1000000) (implicitDefEqProofs := false) only [isortTo, hu, Int.natCast_zero, Int.natCast_one, Nat.zero_add, ss, List.replicate, zH, qG, zF, zG, St.eval, St.put, St.get, constV, List.set, lenV, qE, qF, qB, zC, norm, xQ, look, xP, xX, zO, zM, zE, zN, qA, qI, St.alloc, St.drop, killL, kill, xU, xV, zA, upd, cells?, part, retag, xT, putIn, refFree, xR, isNew, xS, Ty.isAgg, zB, idsL, ids, idsLL, reach, depth, St.dropL, qD, resultV, ↓reduceIte, Nat.reduceBEq, Nat.reduceAdd, Nat.reduceSub, Nat.reduceMul, Nat.reduceEqDiff, Nat.reduceLeDiff, Nat.reduceLT, qJ, qK, zV, zW, qL, qM, qN, qO, Eff.ap, qP, qQ, xW, qR, zI, onto, dropO, xA, sized, zP, eqT, eqG, minV, evUn, qS, zQ, zR, zS, qC, qT, upO, evSlice0, optInt, xC, qV, xD, del, xB, plain, plainL, zY, zZ, zT, qW, zU, zX, xY, qX, qY, qZ, xE, zJ, zK, zL, xF, xG, wit, xH, Option.isSome_some, xI, qH, xJ, evPre, St.with, xK, xL, zD, xM, xN, xO, Array.size, te, einl, inls, efr]) ?_
  rintro ⟨k, hk⟩
  dsimp only
  by_cases hlt : ((k + 1 : Nat) : Int) < l.length
  rotate_left
  · have e1 : isort (ltD gs) l = isortTo (ltD gs) l k := by
      unfold isort
      congr 1
      omega
    rw [e1]
    simp (maxSteps := 1000000) (implicitDefEqProofs := false) only [hlt, Try.ntmps128, Try.results128, efc128, fc128, ss, List.replicate, zH, qG, zF, zG, St.eval, St.put, St.get, constV, List.set, lenV, qE, qF, qB, zC, norm, xQ, look, xP, xX, zO, zM, zE, zN, qA, qI, St.alloc, St.drop, killL, kill, xU, xV, zA, upd, cells?, part, retag, xT, putIn, refFree, xR, isNew, xS, Ty.isAgg, zB, idsL, ids, idsLL, reach, depth, St.dropL, qD, resultV, ↓reduceIte, Nat.reduceBEq, Nat.reduceAdd, Nat.reduceSub, Nat.reduceMul, Nat.reduceEqDiff, Nat.reduceLeDiff, Nat.reduceLT, qJ, qK, zV, zW, qL, qM, qN, qO, Eff.ap, qP, qQ, xW, qR, zI, onto, dropO, xA, sized, zP, eqT, eqG, minV, evUn, qS, zQ, zR, zS, qC, qT, upO, evSlice0, optInt, xC, qV, xD, del, xB, plain, plainL, zY, zZ, zT, qW, zU, zX, xY, qX, qY, qZ, xE, zJ, zK, zL, xF, xG, wit, xH, Option.isSome_some, xI, qH, xJ, evPre, St.with, xK, xL, zD, xM, xN, xO, Array.size, te, einl, inls, efr]
    exact ⟨_, rfl⟩
  have w1 : IntKind.i64.wrap (((k + 1 : Nat) : Int) + 1) = ((k + 1 + 1 : Nat) : Int) := by rw [wrap_in (by omega)]; omega
  have ln := isortTo_len (lt := ltD gs) l k
  have rn : ∀ x ∈ isortTo (ltD gs) l k, 0 ≤ x ∧ x < gs.length := fun x hx => hr x ((isortTo_perm l k).mem_iff.1 hx)
  have hst : isortTo (ltD gs) l (k + 1) = bub (ltD gs) (k + 1) (isortTo (ltD gs) l k) := rfl
  simp (maxSteps := 1000000) (implicitDefEqProofs := false) only [hlt, look_upd_same, upd_upd, ss, List.replicate, zH, qG, zF, zG, St.eval, St.put, St.get, constV, List.set, lenV, qE, qF, qB, zC, norm, xQ, look, xP, xX, zO, zM, zE, zN, qA, qI, St.alloc, St.drop, killL, kill, xU, xV, zA, upd, cells?, part, retag, xT, putIn, refFree, xR, isNew, xS, Ty.isAgg, zB, idsL, ids, idsLL, reach, depth, St.dropL, qD, resultV, ↓reduceIte, Nat.reduceBEq, Nat.reduceAdd, Nat.reduceSub, Nat.reduceMul, Nat.reduceEqDiff, Nat.reduceLeDiff, Nat.reduceLT, qJ, qK, zV, zW, qL, qM, qN, qO, Eff.ap, qP, qQ, xW, qR, zI, onto, dropO, xA, sized, zP, eqT, eqG, minV, evUn, qS, zQ, zR, zS, qC, qT, upO, evSlice0, optInt, xC, qV, xD, del, xB, plain, plainL, zY, zZ, zT, qW, zU, zX, xY, qX, qY, qZ, xE, zJ, zK, zL, xF, xG, wit, xH, Option.isSome_some, xI, qH, xJ, evPre, St.with, xK, xL, zD, xM, xN, xO, Array.size, te, einl, inls, efr]
  generalize hr : loopAt _ _ _ _ _ _ = r; revert r
  refine loop_inv (ι := { p : Nat × List Int // bub (ltD gs) p.1 p.2 = isortTo (ltD gs) l (k + 1) ∧ p.2.length = l.length ∧ p.1 < l.length ∧ ∀ x ∈ p.2, 0 ≤ x ∧ x < gs.length }) (fun p => [(9, .int .i64 (p.1.1 : Nat))]) (fun p => [(id, { es := 1, flat := true, t := t, app := app, elems := p.1.2.map vI })]) (fun p => p.1.1) ⟨(k + 1, isortTo (ltD gs) l k), hst.symm, ln, by dsimp only; omega, rn⟩ (by simp (maxSteps := 1000000) (implicitDefEqProofs := false) only [upd_upd, ss, List.replicate, zH, qG, zF, zG, St.eval, St.put, St.get, constV, List.set, lenV, qE, qF, qB, zC, norm, xQ, look, xP, xX, zO, zM, zE, zN, qA, qI, St.alloc, St.drop, killL, kill, xU, xV, zA, upd, cells?, part, retag, xT, putIn, refFree, xR, isNew, xS, Ty.isAgg, zB, idsL, ids, idsLL, reach, depth, St.dropL, qD, resultV, ↓reduceIte, Nat.reduceBEq, Nat.reduceAdd, Nat.reduceSub, Nat.reduceMul, Nat.reduceEqDiff, Nat.reduceLeDiff, Nat.reduceLT, qJ, qK, zV, zW, qL, qM, qN, qO, Eff.ap, qP, qQ, xW, qR, zI, onto, dropO, xA, sized, zP, eqT, eqG, minV, evUn, qS, zQ, zR, zS, qC, qT, upO, evSlice0, optInt, xC, qV, xD, del, xB, plain, plainL, zY, zZ, zT, qW, zU, zX, xY, qX, qY, qZ, xE, zJ, zK, zL, xF, xG, wit, xH, Option.isSome_some, xI, qH, xJ, evPre, St.with, xK, xL, zD, xM, xN, xO, Array.size, te, einl, inls, efr]) ?_
  rintro ⟨⟨j, m⟩, hb, hlm, hj, hm⟩
  dsimp only at hb hlm hj hm ⊢
  cases j with
  | zero =>
    have e1 : m = isortTo (ltD gs) l (k + 1) := hb
    subst e1
    simp (maxSteps := 1000000) (implicitDefEqProofs := false) only [Int.natCast_zero, Int.lt_irrefl, look_upd_same, upd_upd, evRegion_st hk1, w1, ss, List.replicate, zH, qG, zF, zG, St.eval, St.put, St.get, constV, List.set, lenV, qE, qF, qB, zC, norm, xQ, look, xP, xX, zO, zM, zE, zN, qA, qI, St.alloc, St.drop, killL, kill, xU, xV, zA, upd, cells?, part, retag, xT, putIn, refFree, xR, isNew, xS, Ty.isAgg, zB, idsL, ids, idsLL, reach, depth, St.dropL, qD, resultV, ↓reduceIte, Nat.reduceBEq, Nat.reduceAdd, Nat.reduceSub, Nat.reduceMul, Nat.reduceEqDiff, Nat.reduceLeDiff, Nat.reduceLT, qJ, qK, zV, zW, qL, qM, qN, qO, Eff.ap, qP, qQ, xW, qR, zI, onto, dropO, xA, sized, zP, eqT, eqG, minV, evUn, qS, zQ, zR, zS, qC, qT, upO, evSlice0, optInt, xC, qV, xD, del, xB, plain, plainL, zY, zZ, zT, qW, zU, zX, xY, qX, qY, qZ, xE, zJ, zK, zL, xF, xG, wit, xH, Option.isSome_some, xI, qH, xJ, evPre, St.with, xK, xL, zD, xM, xN, xO, Array.size, te, einl, inls, efr]
    exact ⟨⟨k + 1, by omega⟩, rfl, by dsimp only; omega⟩
  | succ j =>
    have gx : m[j + 1]? = some (m[j + 1]'(by omega)) := List.getElem?_eq_getElem _
    have gy : m[j]? = some (m[j]'(by omega)) := List.getElem?_eq_getElem _
    have rx := hm _ (List.mem_of_getElem? gx)
    have ry := hm _ (List.mem_of_getElem? gy)
    generalize m[j + 1]'(by omega) = x at *
    generalize m[j]'(by omega) = y at *
    have k1 := c95 gs x y rx ry
    have p0 : (0 : Int) < ((j + 1 : Nat) : Int) := by omega
    have w2 : IntKind.i64.wrap (((j + 1 : Nat) : Int) - 1) = (j : Nat) := by rw [wrap_in (by omega)]; omega
    have u1 : ((j + 1 : Nat) : Int) < l.length := by omega
    have u2 : (j : Int) < l.length := by omega
    have ltc := lt_cmpD (gs := gs) (x := x) (y := y)
    by_cases hxy : cmpD gs x y < 0
    rotate_left
    · have e1 : m = isortTo (ltD gs) l (k + 1) := by rw [← hb, bub_stop gx gy (by rw [ltc]; exact hxy)]
      generalize cmpD gs x y = cxy at *
      subst e1
      simp (maxSteps := 1000000) (implicitDefEqProofs := false) only [p0, w2, u1, u2, gx, gy, k1, hp, hxy, vI, look_upd_same, upd_upd, evRegion_st hk1, w1, Int.natCast_nonneg, Int.toNat_natCast, List.getElem?_map, ss, List.replicate, zH, qG, zF, zG, St.eval, St.put, St.get, constV, List.set, lenV, qE, qF, qB, zC, norm, xQ, look, xP, xX, zO, zM, zE, zN, qA, qI, St.alloc, St.drop, killL, kill, xU, xV, zA, upd, cells?, part, retag, xT, putIn, refFree, xR, isNew, xS, Ty.isAgg, zB, idsL, ids, idsLL, reach, depth, St.dropL, qD, resultV, ↓reduceIte, Nat.reduceBEq, Nat.reduceAdd, Nat.reduceSub, Nat.reduceMul, Nat.reduceEqDiff, Nat.reduceLeDiff, Nat.reduceLT, qJ, qK, zV, zW, qL, qM, qN, qO, Eff.ap, qP, qQ, xW, qR, zI, onto, dropO, xA, sized, zP, eqT, eqG, minV, evUn, qS, zQ, zR, zS, qC, qT, upO, evSlice0, optInt, xC, qV, xD, del, xB, plain, plainL, zY, zZ, zT, qW, zU, zX, xY, qX, qY, qZ, xE, zJ, zK, zL, xF, xG, wit, xH, Option.isSome_some, xI, qH, xJ, evPre, St.with, xK, xL, zD, xM, xN, xO, Array.size, te, einl, inls, efr]
      exact ⟨⟨k + 1, by omega⟩, rfl, by dsimp only; omega⟩
    · have e1 := bub_step gx gy (ltc.2 hxy)
      generalize cmpD gs x y = cxy at *
      have g3 : ((m.map vI).set (j + 1) (.int .i64 y)).set j (.int .i64 x) = ((m.set (j + 1) y).set j x).map vI := by rw [List.map_set, List.map_set]; rfl
      have g4 : ((m.map vI).set (j + 1) (.int .i64 y))[j]? = some (.int .i64 y) := by
        rw [List.getElem?_set_ne (by omega), List.getElem?_map, gy]; rfl
      simp (maxSteps := 1000000) (implicitDefEqProofs := false) only [p0, w2, u1, u2, gx, gy, g3, g4, k1, hp, hxy, vI, look_upd_same, upd_upd, evRegion_st hk1, evRegion_st hk2, w1, Int.natCast_nonneg, Int.toNat_natCast, List.getElem?_map, ss, List.replicate, zH, qG, zF, zG, St.eval, St.put, St.get, constV, List.set, lenV, qE, qF, qB, zC, norm, xQ, look, xP, xX, zO, zM, zE, zN, qA, qI, St.alloc, St.drop, killL, kill, xU, xV, zA, upd, cells?, part, retag, xT, putIn, refFree, xR, isNew, xS, Ty.isAgg, zB, idsL, ids, idsLL, reach, depth, St.dropL, qD, resultV, ↓reduceIte, Nat.reduceBEq, Nat.reduceAdd, Nat.reduceSub, Nat.reduceMul, Nat.reduceEqDiff, Nat.reduceLeDiff, Nat.reduceLT, qJ, qK, zV, zW, qL, qM, qN, qO, Eff.ap, qP, qQ, xW, qR, zI, onto, dropO, xA, sized, zP, eqT, eqG, minV, evUn, qS, zQ, zR, zS, qC, qT, upO, evSlice0, optInt, xC, qV, xD, del, xB, plain, plainL, zY, zZ, zT, qW, zU, zX, xY, qX, qY, qZ, xE, zJ, zK, zL, xF, xG, wit, xH, Option.isSome_some, xI, qH, xJ, evPre, St.with, xK, xL, zD, xM, xN, xO, Array.size, te, einl, inls, efr]
      refine ⟨⟨(j, (m.set (j + 1) y).set j x), by rw [← hb, e1], by dsimp only; simp [hlm], by dsimp only; omega, fun z hz => ?_⟩, rfl, by dsimp only; omega⟩
      rcases List.mem_or_eq_of_mem_set hz with hz | rfl
      · rcases List.mem_or_eq_of_mem_set hz with hz | rfl
        · exact hm z hz
        · exact ry
      · exact rx

set_option maxRecDepth 20000 in
set_option maxHeartbeats 8000000 in
theorem c121 (b id pid : Nat) (outer : List (List V)) (objs : List (Nat × Ob)) (gs : List Goods) (l : List Int) (hn : l.length < 20) (t app : Bool) (hl : look objs id = some { es := 1, flat := true, t := t, app := app, elems := l.map vI })
    (hu : upd objs id { es := 1, flat := true, t := t, app := app, elems := l.map vI } = objs) (hp : ∀ X, look (upd objs id X) pid = some (obG gs)) (hr : ∀ x ∈ l, 0 ≤ x ∧ x < gs.length) :
    ∃ sl, (orcω E X0).inl b 121 [.own id 0 l.length, .int .i64 l.length, .clo 95 [] [.ptr pid 0 0]] { slots := [], outer := outer, objs := objs } = some (.tup [], { slots := sl, outer := outer, objs := upd objs id { es := 1, flat := true, t := t, app := app, elems := (isort (ltD gs) l).map vI } }) := by
  refine (fun h : ∃ sl : List V, _ = some (V.tup [], ({ slots := sl, outer := outer, objs := upd objs id { es := 1, flat := true, t := t, app := app, elems := (isort (ltD gs) l).map vI } } : St)) => h.elim fun sl h => ⟨sl, inl_of rfl fn121 rfl h⟩) ?_
  have k1 := fun b outer => c128 b id pid outer objs gs l (by omega) t app hl hu hp hr
  obtain ⟨f, k2⟩ : ∃ f : Nat → List (List V) → List V, ∀ b outer, (orcω E X0).inl b 128 [.own id 0 l.length, .int .i64 0, .int .i64 l.length, .clo 95 [] [.ptr pid 0 0]] { slots := [], outer := outer, objs := objs } = some (.tup [], { slots := f b outer, outer := outer, objs := upd objs id { es := 1, flat := true, t := t, app := app, elems := (isort (ltD gs) l).map vI } }) :=
    ⟨fun b o => (k1 b o).choose, fun b o => (k1 b o).choose_spec⟩
  have h20 : ¬ (20 : Int) ≤ (l.length : Int) := by omega
  have h21 : ¬ (20 : Int) < (l.length : Int) := by omega
  simp (maxSteps := 1000000) (implicitDefEqProofs := false) only [Try.ntmps121, Try.results121, efc121, fc121, ss, List.replicate, zH, qG, zF, zG, St.eval, St.put, St.get, constV, List.set, lenV, qE, qF, qB, zC, norm, xQ, look, xP, xX, zO, zM, zE, zN, qA, qI, St.alloc, St.drop, killL, kill, xU, xV, zA, upd, cells?, part, retag, xT, putIn, refFree, xR, isNew, xS, Ty.isAgg, zB, idsL, ids, idsLL, reach, depth, St.dropL, qD, resultV, ↓reduceIte, Nat.reduceBEq, Nat.reduceAdd, Nat.reduceSub, Nat.reduceMul, Nat.reduceEqDiff, Nat.reduceLeDiff, Nat.reduceLT, qJ, qK, zV, zW, qL, qM, qN, qO, Eff.ap, qP, qQ, xW, qR, zI, onto, dropO, xA, sized, zP, eqT, eqG, minV, evUn, qS, zQ, zR, zS, qC, qT, upO, evSlice0, optInt, xC, qV, xD, del, xB, plain, plainL, zY, zZ, zT, qW, zU, zX, xY, qX, qY, qZ, xE, zJ, zK, zL, xF, xG, wit, xH, Option.isSome_some, xI, qH, xJ, evPre, St.with, xK, xL, zD, xM, xN, xO, Array.size, te, einl, inls, efr]
  generalize hr : loopAt _ _ _ _ _ _ = r; revert r
  refine loop_inv (ι := Unit) (fun _ => []) (fun _ => []) (fun _ => 0) () (by simp (maxSteps := 1000000) (implicitDefEqProofs := false) only [ss, List.replicate, zH, qG, zF, zG, St.eval, St.put, St.get, constV, List.set, lenV, qE, qF, qB, zC, norm, xQ, look, xP, xX, zO, zM, zE, zN, qA, qI, St.alloc, St.drop, killL, kill, xU, xV, zA, upd, cells?, part, retag, xT, putIn, refFree, xR, isNew, xS, Ty.isAgg, zB, idsL, ids, idsLL, reach, depth, St.dropL, qD, resultV, ↓reduceIte, Nat.reduceBEq, Nat.reduceAdd, Nat.reduceSub, Nat.reduceMul, Nat.reduceEqDiff, Nat.reduceLeDiff, Nat.reduceLT, qJ, qK, zV, zW, qL, qM, qN, qO, Eff.ap, qP, qQ, xW, qR, zI, onto, dropO, xA, sized, zP, eqT, eqG, minV, evUn, qS, zQ, zR, zS, qC, qT, upO, evSlice0, optInt, xC, qV, xD, del, xB, plain, plainL, zY, zZ, zT, qW, zU, zX, xY, qX, qY, qZ, xE, zJ, zK, zL, xF, xG, wit, xH, Option.isSome_some, xI, qH, xJ, evPre, St.with, xK, xL, zD, xM, xN, xO, Array.size, te, einl, inls, efr]) ?_
  intro _
  simp (maxSteps := 1000000) (implicitDefEqProofs := false) only [h20, k2, ss, List.replicate, zH, qG, zF, zG, St.eval, St.put, St.get, constV, List.set, lenV, qE, qF, qB, zC, norm, xQ, look, xP, xX, zO, zM, zE, zN, qA, qI, St.alloc, St.drop, killL, kill, xU, xV, zA, upd, cells?, part, retag, xT, putIn, refFree, xR, isNew, xS, Ty.isAgg, zB, idsL, ids, idsLL, reach, depth, St.dropL, qD, resultV, ↓reduceIte, Nat.reduceBEq, Nat.reduceAdd, Nat.reduceSub, Nat.reduceMul, Nat.reduceEqDiff, Nat.reduceLeDiff, Nat.reduceLT, qJ, qK, zV, zW, qL, qM, qN, qO, Eff.ap, qP, qQ, xW, qR, zI, onto, dropO, xA, sized, zP, eqT, eqG, minV, evUn, qS, zQ, zR, zS, qC, qT, upO, evSlice0, optInt, xC, qV, xD, del, xB, plain, plainL, zY, zZ, zT, qW, zU, zX, xY, qX, qY, qZ, xE, zJ, zK, zL, xF, xG, wit, xH, Option.isSome_some, xI, qH, xJ, evPre, St.with, xK, xL, zD, xM, xN, xO, Array.size, te, einl, inls, efr]
  generalize hr : loopAt _ _ _ _ _ _ = r; revert r
  refine loop_inv (ι := Unit) (fun _ => []) (fun _ => []) (fun _ => 0) () (by simp (maxSteps := 1000000) (implicitDefEqProofs := false) only [ss, List.replicate, zH, qG, zF, zG, St.eval, St.put, St.get, constV, List.set, lenV, qE, qF, qB, zC, norm, xQ, look, xP, xX, zO, zM, zE, zN, qA, qI, St.alloc, St.drop, killL, kill, xU, xV, zA, upd, cells?, part, retag, xT, putIn, refFree, xR, isNew, xS, Ty.isAgg, zB, idsL, ids, idsLL, reach, depth, St.dropL, qD, resultV, ↓reduceIte, Nat.reduceBEq, Nat.reduceAdd, Nat.reduceSub, Nat.reduceMul, Nat.reduceEqDiff, Nat.reduceLeDiff, Nat.reduceLT, qJ, qK, zV, zW, qL, qM, qN, qO, Eff.ap, qP, qQ, xW, qR, zI, onto, dropO, xA, sized, zP, eqT, eqG, minV, evUn, qS, zQ, zR, zS, qC, qT, upO, evSlice0, optInt, xC, qV, xD, del, xB, plain, plainL, zY, zZ, zT, qW, zU, zX, xY, qX, qY, qZ, xE, zJ, zK, zL, xF, xG, wit, xH, Option.isSome_some, xI, qH, xJ, evPre, St.with, xK, xL, zD, xM, xN, xO, Array.size, te, einl, inls, efr]) ?_
  intro _
  simp (maxSteps := 1000000) (implicitDefEqProofs := false) only [h21, Try.ntmps121, Try.results121, efc121, fc121, ss, List.replicate, zH, qG, zF, zG, St.eval, St.put, St.get, constV, List.set, lenV, qE, qF, qB, zC, norm, xQ, look, xP, xX, zO, zM, zE, zN, qA, qI, St.alloc, St.drop, killL, kill, xU, xV, zA, upd, cells?, part, retag, xT, putIn, refFree, xR, isNew, xS, Ty.isAgg, zB, idsL, ids, idsLL, reach, depth, St.dropL, qD, resultV, ↓reduceIte, Nat.reduceBEq, Nat.reduceAdd, Nat.reduceSub, Nat.reduceMul, Nat.reduceEqDiff, Nat.reduceLeDiff, Nat.reduceLT, qJ, qK, zV, zW, qL, qM, qN, qO, Eff.ap, qP, qQ, xW, qR, zI, onto, dropO, xA, sized, zP, eqT, eqG, minV, evUn, qS, zQ, zR, zS, qC, qT, upO, evSlice0, optInt, xC, qV, xD, del, xB, plain, plainL, zY, zZ, zT, qW, zU, zX, xY, qX, qY, qZ, xE, zJ, zK, zL, xF, xG, wit, xH, Option.isSome_some, xI, qH, xJ, evPre, St.with, xK, xL, zD, xM, xN, xO, Array.size, te, einl, inls, efr]
  exact ⟨_, rfl⟩

set_option maxRecDepth 20000 in
set_option maxHeartbeats 8000000 in
theorem c94 (b id pid : Nat) (outer : List (List V)) (objs : List (Nat × Ob)) (gs : List Goods) (l : List Int) (hn : l.length < 20) (t app : Bool) (hl : look objs id = some { es := 1, flat := true, t := t, app := app, elems := l.map vI })
    (hu : upd objs id { es := 1, flat := true, t := t, app := app, elems := l.map vI } = objs) (hp : ∀ X, look (upd objs id X) pid = some (obG gs)) (hr : ∀ x ∈ l, 0 ≤ x ∧ x < gs.length) :
    ∃ sl, (orcω E X0).inl b 94 [.own id 0 l.length, .clo 95 [] [.ptr pid 0 0]] { slots := [], outer := outer, objs := objs } = some (.tup [], { slots := sl, outer := outer, objs := upd objs id { es := 1, flat := true, t := t, app := app, elems := (isort (ltD gs) l).map vI } }) := by
  refine (fun h : ∃ sl : List V, _ = some (V.tup [], ({ slots := sl, outer := outer, objs := upd objs id { es := 1, flat := true, t := t, app := app, elems := (isort (ltD gs) l).map vI } } : St)) => h.elim fun sl h => ⟨sl, inl_of rfl fn94 rfl h⟩) ?_
  have k1 := fun b outer => c121 b id pid outer objs gs l hn t app hl hu hp hr
  obtain ⟨f, k2⟩ : ∃ f : Nat → List (List V) → List V, ∀ b outer, (orcω E X0).inl b 121 [.own id 0 l.length, .int .i64 l.length, .clo 95 [] [.ptr pid 0 0]] { slots := [], outer := outer, objs := objs } = some (.tup [], { slots := f b outer, outer := outer, objs := upd objs id { es := 1, flat := true, t := t, app := app, elems := (isort (ltD gs) l).map vI } }) :=
    ⟨fun b o => (k1 b o).choose, fun b o => (k1 b o).choose_spec⟩
  simp (maxSteps := 1000000) (implicitDefEqProofs := false) only [Try.ntmps94, Try.results94, efc94, k2, ss, List.replicate, zH, qG, zF, zG, St.eval, St.put, St.get, constV, List.set, lenV, qE, qF, qB, zC, norm, xQ, look, xP, xX, zO, zM, zE, zN, qA, qI, St.alloc, St.drop, killL, kill, xU, xV, zA, upd, cells?, part, retag, xT, putIn, refFree, xR, isNew, xS, Ty.isAgg, zB, idsL, ids, idsLL, reach, depth, St.dropL, qD, resultV, ↓reduceIte, Nat.reduceBEq, Nat.reduceAdd, Nat.reduceSub, Nat.reduceMul, Nat.reduceEqDiff, Nat.reduceLeDiff, Nat.reduceLT, qJ, qK, zV, zW, qL, qM, qN, qO, Eff.ap, qP, qQ, xW, qR, zI, onto, dropO, xA, sized, zP, eqT, eqG, minV, evUn, qS, zQ, zR, zS, qC, qT, upO, evSlice0, optInt, xC, qV, xD, del, xB, plain, plainL, zY, zZ, zT, qW, zU, zX, xY, qX, qY, qZ, xE, zJ, zK, zL, xF, xG, wit, xH, Option.isSome_some, xI, qH, xJ, evPre, St.with, xK, xL, zD, xM, xN, xO, Array.size, te, einl, inls, efr]
  exact ⟨_, rfl⟩
end Go.AM.B

