/-
slices.SortFunc of offers, the dearest first (at most 12 of them).
-/
import Derived.Test.YtffbfhjcpgcdeaaCGreedP
import Derived.Test.YtffbfhjcpgcdeaaCRollH
set_option linter.unusedVariables false
set_option linter.unusedSimpArgs false
set_option maxRecDepth 20000

namespace Go.AM.C
open Go Go.AM Go.Proofs

structure Off where
  art : Art
  num : Int
  bits : List V
  hp : 0 ≤ art.price ∧ art.price ≤ 10000
  hn : 0 ≤ num ∧ num ≤ 1000

def encO (t : Bool) (o : Off) : V := .agg [.int .i64 o.art.len, .int .i64 o.art.q.least, .int .i64 o.art.q.most, .int .i64 o.art.q.shade, .int .i64 o.art.q.flaws, .int .i64 o.art.price, .int .i64 o.num, .sl t o.bits]
def cmpO (x y : Off) : Int := if x.art.price = y.art.price then x.num - y.num else y.art.price - x.art.price
def ltO (x y : Off) : Bool := decide (cmpO x y < 0)

theorem ltO_iff {x y : Off} : ltO x y = true ↔ (y.art.price < x.art.price ∨ (x.art.price = y.art.price ∧ x.num < y.num)) := by
  unfold ltO cmpO
  rw [decide_eq_true_eq]
  split <;> omega

theorem ltO_asym (x y : Off) (h : ltO x y = true) : ¬ ltO y x = true := by
  rw [ltO_iff] at h ⊢
  omega
theorem ltO_trans (x y z : Off) (h : ¬ ltO y x = true) (h' : ¬ ltO z y = true) : ¬ ltO z x = true := by
  rw [ltO_iff] at h h' ⊢
  omega

theorem c67 (x y : Off) : (orcω E X0).call 67 [encO false x, encO false y] = some (.int .i64 (cmpO x y)) := by
  refine call_of rfl fn67 rfl ?_
  have hx := x.hp
  have hy := y.hp
  have nx := x.hn
  have ny := y.hn
  unfold cmpO encO
  by_cases h : x.art.price = y.art.price
  · have h1 : (x.art.price != y.art.price) = false := by simpa using h
    have w1 : IntKind.i64.wrap (x.num - y.num) = x.num - y.num := wrap_in (by omega)
    rw [if_pos h]
    simp (maxSteps := 1000000) (implicitDefEqProofs := false) only [Try.ntmps67, Try.results67, efc67, h1, w1, ss, sd, zH, qG, zF, zG, St.get, qE, qF, qB, zC, norm, look, zE, qA, qI, St.alloc, St.drop, zA, part, zB, depth, qD, ↓reduceIte, Nat.reduceBEq, Nat.reduceAdd, Nat.reduceSub, Nat.reduceMul, Nat.reduceEqDiff, Nat.reduceLeDiff, Nat.reduceLT, qJ, qK, qL, qM, qN, qO, qP, qQ, qR, zI, qS, qC, qT, qU, qV, qW, qX, qY, qZ, zJ, zK, zL, wit, Option.isSome_some, qH, St.with, zD, Array.size, te, einl, inls, efr]
  · have h1 : (x.art.price != y.art.price) = true := by simpa using h
    have w1 : IntKind.i64.wrap (y.art.price - x.art.price) = y.art.price - x.art.price := wrap_in (by omega)
    rw [if_neg h]
    simp (maxSteps := 1000000) (implicitDefEqProofs := false) only [Try.ntmps67, Try.results67, efc67, h1, w1, ss, sd, zH, qG, zF, zG, St.get, qE, qF, qB, zC, norm, look, zE, qA, qI, St.alloc, St.drop, zA, part, zB, depth, qD, ↓reduceIte, Nat.reduceBEq, Nat.reduceAdd, Nat.reduceSub, Nat.reduceMul, Nat.reduceEqDiff, Nat.reduceLeDiff, Nat.reduceLT, qJ, qK, qL, qM, qN, qO, qP, qQ, qR, zI, qS, qC, qT, qU, qV, qW, qX, qY, qZ, zJ, zK, zL, wit, Option.isSome_some, qH, St.with, zD, Array.size, te, einl, inls, efr]

theorem lt_cmp67 {x y : Off} : ltO x y = true ↔ cmpO x y < 0 := decide_eq_true_iff

def isI (n : Int) : Option V → Bool
  | some (.int .i64 m) => m == n
  | _ => false
theorem isI_eq {n : Int} {r : Option V} (h : isI n r = true) : r = some (.int .i64 n) := by
  unfold isI at h
  split at h
  · rw [beq_iff_eq] at h
    rw [h]
  · cases h
def bitsOf (n : Nat) : Int := if n = 0 then 0 else if n = 1 then 1 else if n < 4 then 2 else if n < 8 then 3 else 4
set_option maxRecDepth 100000 in
theorem bits_runs : ((List.range 13).all fun n => isI (bitsOf n) ((orc E X0 20).call 83 [.int .u64 (n : Nat)])) = true := by decide +kernel
theorem c83 (n : Nat) (hn : n ≤ 12) : (orcω E X0).call 83 [.int .u64 n] = some (.int .i64 (bitsOf n)) :=
  (orcω_le 20).call 83 _ _ (isI_eq (List.all_eq_true.1 bits_runs n (List.mem_range.2 (by omega))))

theorem okT96 : okCode (Try.f96.body.getD .skip) = true := by decide +kernel
set_option maxRecDepth 20000 in
set_option maxHeartbeats 8000000 in
theorem c96 (b id : Nat) (outer : List (List V)) (objs : List (Nat × Ob)) (l : List Off) (hn : l.length ≤ 1000000) (t app : Bool) (hl : look objs id = some { es := 8, flat := true, t := t, app := app, elems := (l).map (encO t) }) (hu : upd objs id { es := 8, flat := true, t := t, app := app, elems := (l).map (encO t) } = objs) :
    ∃ sl, (orcω E X0).inl b 96 [.own id 0 l.length, .int .i64 0, .int .i64 l.length, .clo 67 [] []] { slots := [], outer := outer, objs := objs } = some (.tup [], { slots := sl, outer := outer, objs := upd objs id { es := 8, flat := true, t := t, app := app, elems := (isort ltO l).map (encO t) } }) := by
  refine (fun h : ∃ sl : List V, _ = some (V.tup [], ({ slots := sl, outer := outer, objs := upd objs id { es := 8, flat := true, t := t, app := app, elems := (isort ltO l).map (encO t) } } : St)) => h.elim fun sl h => ⟨sl, inl_of rfl fn96 rfl h⟩) ?_
  have hok := okT96
  simp only [Try.f96, Option.getD_some, okCode, Bool.and_eq_true, Bool.and_true, Bool.true_and] at hok
  obtain ⟨hk1, hk2⟩ := hok
  have q1 : IntKind.i64.wrap (0 + 1) = 1 := by decide
  simp (maxSteps := 1000000) (implicitDefEqProofs := false) only [Try.ntmps96, Try.results96, efc96, fc96, q1, ss, sd, zH, qG, zF, zG, St.get, qE, qF, qB, zC, norm, look, zE, qA, qI, St.alloc, St.drop, zA, part, zB, depth, qD, ↓reduceIte, Nat.reduceBEq, Nat.reduceAdd, Nat.reduceSub, Nat.reduceMul, Nat.reduceEqDiff, Nat.reduceLeDiff, Nat.reduceLT, qJ, qK, qL, qM, qN, qO, qP, qQ, qR, zI, qS, qC, qT, qU, qV, qW, qX, qY, qZ, zJ, zK, zL, wit, Option.isSome_some, qH, St.with, zD, Array.size, te, einl, inls, efr]
  generalize hr : loopAt _ _ _ _ _ _ = r; revert r
  refine loop_inv (ι := { k : Nat // k = 0 ∨ k < l.length }) (fun k => [(8, .int .i64 ((k.1 + 1 : Nat) : Int))]) (fun k => [(id, { es := 8, flat := true, t := t, app := app, elems := (isortTo ltO l k.1).map (encO t) })]) (fun k => l.length - k.1) ⟨0, .inl rfl⟩ (by simp (maxSteps := 1000000) (implicitDefEqProofs := false) only [isortTo, hu, Int.natCast_zero, Int.natCast_one, Nat.zero_add, ss, sd, zH, qG, zF, zG, St.get, qE, qF, qB, zC, norm, look, zE, qA, qI, St.alloc, St.drop, zA, part, zB, depth, qD, ↓reduceIte, Nat.reduceBEq, Nat.reduceAdd, Nat.reduceSub, Nat.reduceMul, Nat.reduceEqDiff, Nat.reduceLeDiff, Nat.reduceLT, qJ, qK, qL, qM, qN, qO, qP, qQ, qR, zI, qS, qC, qT, qU, qV, qW, qX, qY, qZ, zJ, zK, zL, wit, Option.isSome_some, qH, St.with, zD, Array.size, te, einl, inls, efr]) ?_
  rintro ⟨k, hk⟩
  dsimp only
  by_cases hlt : ((k + 1 : Nat) : Int) < l.length
  rotate_left
  · have e1 : isort ltO l = isortTo ltO l k := by
      unfold isort
      congr 1
      omega
    rw [e1]
    simp (maxSteps := 1000000) (implicitDefEqProofs := false) only [hlt, Try.ntmps96, Try.results96, efc96, fc96, ss, sd, zH, qG, zF, zG, St.get, qE, qF, qB, zC, norm, look, zE, qA, qI, St.alloc, St.drop, zA, part, zB, depth, qD, ↓reduceIte, Nat.reduceBEq, Nat.reduceAdd, Nat.reduceSub, Nat.reduceMul, Nat.reduceEqDiff, Nat.reduceLeDiff, Nat.reduceLT, qJ, qK, qL, qM, qN, qO, qP, qQ, qR, zI, qS, qC, qT, qU, qV, qW, qX, qY, qZ, zJ, zK, zL, wit, Option.isSome_some, qH, St.with, zD, Array.size, te, einl, inls, efr]
    exact ⟨_, rfl⟩
  have w1 : IntKind.i64.wrap (((k + 1 : Nat) : Int) + 1) = ((k + 1 + 1 : Nat) : Int) := by rw [wrap_in (by omega)]; omega
  have ln := isortTo_len (lt := ltO) l k
  have hst : isortTo ltO l (k + 1) = bub ltO (k + 1) (isortTo ltO l k) := rfl
  simp (maxSteps := 1000000) (implicitDefEqProofs := false) only [hlt, look_upd_same, upd_upd, ss, sd, zH, qG, zF, zG, St.get, qE, qF, qB, zC, norm, look, zE, qA, qI, St.alloc, St.drop, zA, part, zB, depth, qD, ↓reduceIte, Nat.reduceBEq, Nat.reduceAdd, Nat.reduceSub, Nat.reduceMul, Nat.reduceEqDiff, Nat.reduceLeDiff, Nat.reduceLT, qJ, qK, qL, qM, qN, qO, qP, qQ, qR, zI, qS, qC, qT, qU, qV, qW, qX, qY, qZ, zJ, zK, zL, wit, Option.isSome_some, qH, St.with, zD, Array.size, te, einl, inls, efr]
  generalize hr : loopAt _ _ _ _ _ _ = r; revert r
  refine loop_inv (ι := { p : Nat × List Off // bub ltO p.1 p.2 = isortTo ltO l (k + 1) ∧ p.2.length = l.length ∧ p.1 < l.length }) (fun p => [(9, .int .i64 (p.1.1 : Nat))]) (fun p => [(id, { es := 8, flat := true, t := t, app := app, elems := (p.1.2).map (encO t) })]) (fun p => p.1.1) ⟨(k + 1, isortTo ltO l k), hst.symm, ln, by dsimp only; omega⟩ (by simp (maxSteps := 1000000) (implicitDefEqProofs := false) only [upd_upd, ss, sd, zH, qG, zF, zG, St.get, qE, qF, qB, zC, norm, look, zE, qA, qI, St.alloc, St.drop, zA, part, zB, depth, qD, ↓reduceIte, Nat.reduceBEq, Nat.reduceAdd, Nat.reduceSub, Nat.reduceMul, Nat.reduceEqDiff, Nat.reduceLeDiff, Nat.reduceLT, qJ, qK, qL, qM, qN, qO, qP, qQ, qR, zI, qS, qC, qT, qU, qV, qW, qX, qY, qZ, zJ, zK, zL, wit, Option.isSome_some, qH, St.with, zD, Array.size, te, einl, inls, efr]) ?_
  rintro ⟨⟨j, m⟩, hb, hlm, hj⟩
  dsimp only at hb hlm hj ⊢
  cases j with
  | zero =>
    have e1 : m = isortTo ltO l (k + 1) := hb
    subst e1
    simp (maxSteps := 1000000) (implicitDefEqProofs := false) only [Int.natCast_zero, Int.lt_irrefl, look_upd_same, upd_upd, evRegion_st hk1, w1, ss, sd, zH, qG, zF, zG, St.get, qE, qF, qB, zC, norm, look, zE, qA, qI, St.alloc, St.drop, zA, part, zB, depth, qD, ↓reduceIte, Nat.reduceBEq, Nat.reduceAdd, Nat.reduceSub, Nat.reduceMul, Nat.reduceEqDiff, Nat.reduceLeDiff, Nat.reduceLT, qJ, qK, qL, qM, qN, qO, qP, qQ, qR, zI, qS, qC, qT, qU, qV, qW, qX, qY, qZ, zJ, zK, zL, wit, Option.isSome_some, qH, St.with, zD, Array.size, te, einl, inls, efr]
    exact ⟨⟨k + 1, by omega⟩, rfl, by dsimp only; omega⟩
  | succ j =>
    have gx : m[j + 1]? = some (m[j + 1]'(by omega)) := List.getElem?_eq_getElem _
    have gy : m[j]? = some (m[j]'(by omega)) := List.getElem?_eq_getElem _
    generalize m[j + 1]'(by omega) = x at *
    generalize m[j]'(by omega) = y at *
    have k1 := c67 x y
    have p0 : (0 : Int) < ((j + 1 : Nat) : Int) := by omega
    have w2 : IntKind.i64.wrap (((j + 1 : Nat) : Int) - 1) = (j : Nat) := by rw [wrap_in (by omega)]; omega
    have u1 : ((j + 1 : Nat) : Int) < l.length := by omega
    have u2 : (j : Int) < l.length := by omega
    have ltc := lt_cmp67 (x := x) (y := y)
    have eset : ((m.map (encO t)).set (j + 1) ((encO t) y)).set j ((encO t) x) = ((m.set (j + 1) y).set j x).map (encO t) := by rw [List.map_set, List.map_set]
    have eget : ((m.map (encO t)).set (j + 1) ((encO t) y))[j]? = some ((encO t) y) := by
      rw [List.getElem?_set_ne (by omega), List.getElem?_map, gy]; rfl
    by_cases hxy : cmpO x y < 0
    rotate_left
    · have e1 : m = isortTo ltO l (k + 1) := by rw [← hb, bub_stop gx gy (by rw [ltc]; exact hxy)]
      generalize cmpO x y = cxy at *
      subst e1
      unfold encO at k1
      simp (maxSteps := 1000000) (implicitDefEqProofs := false) only [p0, w2, u1, u2, gx, gy, k1, hxy, encO, look_upd_same, upd_upd, evRegion_st hk1, w1, Int.natCast_nonneg, Int.toNat_natCast, List.getElem?_map, ss, sd, zH, qG, zF, zG, St.get, qE, qF, qB, zC, norm, look, zE, qA, qI, St.alloc, St.drop, zA, part, zB, depth, qD, ↓reduceIte, Nat.reduceBEq, Nat.reduceAdd, Nat.reduceSub, Nat.reduceMul, Nat.reduceEqDiff, Nat.reduceLeDiff, Nat.reduceLT, qJ, qK, qL, qM, qN, qO, qP, qQ, qR, zI, qS, qC, qT, qU, qV, qW, qX, qY, qZ, zJ, zK, zL, wit, Option.isSome_some, qH, St.with, zD, Array.size, te, einl, inls, efr]
      exact ⟨⟨k + 1, by omega⟩, rfl, by dsimp only; omega⟩
    · have e1 := bub_step gx gy (ltc.2 hxy)
      generalize cmpO x y = cxy at *
      generalize hM : (m.set (j + 1) y).set j x = m2 at *
      have hlm2 : m2.length = l.length := by rw [← hM]; simp [hlm]
      unfold encO at k1
      simp only [encO] at eset eget
      simp (maxSteps := 1000000) (implicitDefEqProofs := false) only [p0, w2, u1, u2, gx, gy, eset, eget, k1, hxy, encO, look_upd_same, upd_upd, evRegion_st hk1, evRegion_st hk2, w1, Int.natCast_nonneg, Int.toNat_natCast, List.getElem?_map, ss, sd, zH, qG, zF, zG, St.get, qE, qF, qB, zC, norm, look, zE, qA, qI, St.alloc, St.drop, zA, part, zB, depth, qD, ↓reduceIte, Nat.reduceBEq, Nat.reduceAdd, Nat.reduceSub, Nat.reduceMul, Nat.reduceEqDiff, Nat.reduceLeDiff, Nat.reduceLT, qJ, qK, qL, qM, qN, qO, qP, qQ, qR, zI, qS, qC, qT, qU, qV, qW, qX, qY, qZ, zJ, zK, zL, wit, Option.isSome_some, qH, St.with, zD, Array.size, te, einl, inls, efr]
      exact ⟨⟨(j, m2), by rw [← hb, e1], hlm2, by dsimp only; omega⟩, rfl, by dsimp only; omega⟩

set_option maxRecDepth 20000 in
set_option maxHeartbeats 8000000 in
theorem c82 (b id : Nat) (outer : List (List V)) (objs : List (Nat × Ob)) (l : List Off) (hn : l.length ≤ 12) (lim : Int) (t app : Bool) (hl : look objs id = some { es := 8, flat := true, t := t, app := app, elems := (l).map (encO t) }) (hu : upd objs id { es := 8, flat := true, t := t, app := app, elems := (l).map (encO t) } = objs) :
    ∃ sl, (orcω E X0).inl b 82 [.own id 0 l.length, .int .i64 0, .int .i64 l.length, .int .i64 lim, .clo 67 [] []] { slots := [], outer := outer, objs := objs } = some (.tup [], { slots := sl, outer := outer, objs := upd objs id { es := 8, flat := true, t := t, app := app, elems := (isort ltO l).map (encO t) } }) := by
  refine (fun h : ∃ sl : List V, _ = some (V.tup [], ({ slots := sl, outer := outer, objs := upd objs id { es := 8, flat := true, t := t, app := app, elems := (isort ltO l).map (encO t) } } : St)) => h.elim fun sl h => ⟨sl, inl_of rfl fn82 rfl h⟩) ?_
  have k1 := fun b outer => c96 b id outer objs l (by omega) t app hl hu
  obtain ⟨f, k2⟩ := Classical.skolem.1 fun b => Classical.skolem.1 (k1 b)
  have w1 : IntKind.i64.wrap ((l.length : Int) - 0) = l.length := by rw [wrap_in (by omega)]; omega
  have h12 : (l.length : Int) ≤ 12 := by omega
  simp (maxSteps := 1000000) (implicitDefEqProofs := false) only [Try.ntmps82, Try.results82, efc82, fc82, ss, sd, zH, qG, zF, zG, St.get, qE, qF, qB, zC, norm, look, zE, qA, qI, St.alloc, St.drop, zA, part, zB, depth, qD, ↓reduceIte, Nat.reduceBEq, Nat.reduceAdd, Nat.reduceSub, Nat.reduceMul, Nat.reduceEqDiff, Nat.reduceLeDiff, Nat.reduceLT, qJ, qK, qL, qM, qN, qO, qP, qQ, qR, zI, qS, qC, qT, qU, qV, qW, qX, qY, qZ, zJ, zK, zL, wit, Option.isSome_some, qH, St.with, zD, Array.size, te, einl, inls, efr]
  generalize hr : loopAt _ _ _ _ _ _ = r; revert r
  refine loop_inv (ι := Unit) (fun _ => []) (fun _ => []) (fun _ => 0) () (by simp (maxSteps := 1000000) (implicitDefEqProofs := false) only [ss, sd, zH, qG, zF, zG, St.get, qE, qF, qB, zC, norm, look, zE, qA, qI, St.alloc, St.drop, zA, part, zB, depth, qD, ↓reduceIte, Nat.reduceBEq, Nat.reduceAdd, Nat.reduceSub, Nat.reduceMul, Nat.reduceEqDiff, Nat.reduceLeDiff, Nat.reduceLT, qJ, qK, qL, qM, qN, qO, qP, qQ, qR, zI, qS, qC, qT, qU, qV, qW, qX, qY, qZ, zJ, zK, zL, wit, Option.isSome_some, qH, St.with, zD, Array.size, te, einl, inls, efr]) ?_
  intro _
  simp (maxSteps := 1000000) (implicitDefEqProofs := false) only [w1, h12, k2, Try.ntmps82, Try.results82, efc82, fc82, ss, sd, zH, qG, zF, zG, St.get, qE, qF, qB, zC, norm, look, zE, qA, qI, St.alloc, St.drop, zA, part, zB, depth, qD, ↓reduceIte, Nat.reduceBEq, Nat.reduceAdd, Nat.reduceSub, Nat.reduceMul, Nat.reduceEqDiff, Nat.reduceLeDiff, Nat.reduceLT, qJ, qK, qL, qM, qN, qO, qP, qQ, qR, zI, qS, qC, qT, qU, qV, qW, qX, qY, qZ, zJ, zK, zL, wit, Option.isSome_some, qH, St.with, zD, Array.size, te, einl, inls, efr]
  exact ⟨_, rfl⟩

set_option maxRecDepth 20000 in
set_option maxHeartbeats 8000000 in
theorem c66 (b id : Nat) (outer : List (List V)) (objs : List (Nat × Ob)) (l : List Off) (hn : l.length ≤ 12) (t app : Bool) (hl : look objs id = some { es := 8, flat := true, t := t, app := app, elems := (l).map (encO t) }) (hu : upd objs id { es := 8, flat := true, t := t, app := app, elems := (l).map (encO t) } = objs) :
    ∃ sl, (orcω E X0).inl b 66 [.own id 0 l.length, .clo 67 [] []] { slots := [], outer := outer, objs := objs } = some (.tup [], { slots := sl, outer := outer, objs := upd objs id { es := 8, flat := true, t := t, app := app, elems := (isort ltO l).map (encO t) } }) := by
  refine (fun h : ∃ sl : List V, _ = some (V.tup [], ({ slots := sl, outer := outer, objs := upd objs id { es := 8, flat := true, t := t, app := app, elems := (isort ltO l).map (encO t) } } : St)) => h.elim fun sl h => ⟨sl, inl_of rfl fn66 rfl h⟩) ?_
  have k0 := c83 l.length hn
  have k1 := fun b outer => c82 b id outer objs l hn (bitsOf l.length) t app hl hu
  obtain ⟨f, k2⟩ := Classical.skolem.1 fun b => Classical.skolem.1 (k1 b)
  have w1 : IntKind.u64.wrap (l.length : Int) = l.length := IntWalk.u64_in _ (by omega)
  simp (maxSteps := 1000000) (implicitDefEqProofs := false) only [Try.ntmps66, Try.results66, efc66, w1, k0, k2, ss, sd, zH, qG, zF, zG, St.get, qE, qF, qB, zC, norm, look, zE, qA, qI, St.alloc, St.drop, zA, part, zB, depth, qD, ↓reduceIte, Nat.reduceBEq, Nat.reduceAdd, Nat.reduceSub, Nat.reduceMul, Nat.reduceEqDiff, Nat.reduceLeDiff, Nat.reduceLT, qJ, qK, qL, qM, qN, qO, qP, qQ, qR, zI, qS, qC, qT, qU, qV, qW, qX, qY, qZ, zJ, zK, zL, wit, Option.isSome_some, qH, St.with, zD, Array.size, te, einl, inls, efr]
  exact ⟨_, rfl⟩

end Go.AM.C

