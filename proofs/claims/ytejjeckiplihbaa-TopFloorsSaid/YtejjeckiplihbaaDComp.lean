/-
slices.Compact of whole numbers: how many are left.
-/
import Derived.Test.YtejjeckiplihbaaDSort
set_option linter.unusedSimpArgs false
set_option maxRecDepth 20000

namespace Go.AM.D
open Go Go.AM Go.Proofs

/-- How many of the first numbers differ from the one before. -/
def runsTo (m : List Int) : Nat → Nat
  | 0 => 0
  | k + 1 => runsTo m k + if k = 0 ∨ ¬ m.getD k 0 = m.getD (k - 1) 0 then 1 else 0
theorem runs_le (m : List Int) : ∀ k : Nat, runsTo m k ≤ k
  | 0 => Nat.le_refl _
  | k + 1 => by
    have := runs_le m k
    show runsTo m k + (if _ then 1 else 0) ≤ k + 1
    split <;> omega
theorem runs_new {m : List Int} {k : Nat} {x y : Int} (hx : m[k + 1]? = some x) (hy : m[k]? = some y) (h : ¬ x = y) : runsTo m (k + 2) = runsTo m (k + 1) + 1 := by
  show runsTo m (k + 1) + (if _ then 1 else 0) = _
  rw [if_pos (.inr (by rw [List.getD_eq_getElem?_getD, List.getD_eq_getElem?_getD, hx, show k + 1 - 1 = k by omega, hy]; exact h))]
theorem runs_old {m : List Int} {k : Nat} {x y : Int} (hx : m[k + 1]? = some x) (hy : m[k]? = some y) (h : x = y) : runsTo m (k + 2) = runsTo m (k + 1) := by
  show runsTo m (k + 1) + (if _ then 1 else 0) = _
  rw [if_neg]
  · rfl
  · rintro (h1 | h1)
    · omega
    · rw [List.getD_eq_getElem?_getD, List.getD_eq_getElem?_getD, hx, show k + 1 - 1 = k by omega, hy] at h1
      exact h1 h
theorem runs_pos (m : List Int) : ∀ k : Nat, 1 ≤ runsTo m (k + 1)
  | 0 => by simp [runsTo]
  | k + 1 => by
    have := runs_pos m k
    show 1 ≤ runsTo m (k + 1) + _
    omega

theorem store_int {id k : Nat} {st : St} {t app : Bool} {e : List Int} {x : Int} (hl : look st.objs id = some { es := 1, flat := true, t := t, app := app, elems := e.map vI }) (hk : k < e.length) :
    evStore ti3 (.ptr id k 0) (.int .i64 x) st = some { st with objs := upd st.objs id { es := 1, flat := true, t := t, app := app, elems := (e.set k x).map vI } } := by
  have g : e[k]? = some e[k] := List.getElem?_eq_getElem hk
  have e1 : (e.map vI).set k (.int .i64 x) = (e.set k x).map vI := by rw [List.map_set]; rfl
  simp (maxSteps := 1000000) (implicitDefEqProofs := false) only [hl, g, e1, ti3, vI, List.getElem?_map, Bool.and_true, ss, sd, evOp, evPlain, evVal, evMem, St.get, sliceOf, arrayOf, fieldsOf, normOf, norm, look, evVar, evFieldAddr, nameOf, St.alloc, St.drop, killOb, part, splice, depth, resultsV, ↓reduceIte, Nat.reduceBEq, Nat.reduceAdd, Nat.reduceSub, Nat.reduceMul, Nat.reduceEqDiff, Nat.reduceLeDiff, Nat.reduceLT, effOf, effMem, effVar, effLit, effMake, effApp, lend, evLit, evNil, freeze, evField, evIndexT, orNil, evSlice, placeOf, evMap, mapOf, keyOk, evFrame, closed, fixed, sameEs, wit, Option.isSome_some, St.with, wantedD, Array.size, te, einl, inls, efr]

/-- Whole numbers are set to zero. -/
def zeroed (e : List Int) (k : Nat) : Nat → List Int
  | 0 => e
  | n + 1 => zeroed (e.set k 0) (k + 1) n
theorem clear_ints {id : Nat} {t app : Bool} : ∀ (n k : Nat) (st : St) (e : List Int), look st.objs id = some { es := 1, flat := true, t := t, app := app, elems := e.map vI } → upd st.objs id { es := 1, flat := true, t := t, app := app, elems := e.map vI } = st.objs → k + n ≤ e.length →
    clearN ti3 id n k st = some { st with objs := upd st.objs id { es := 1, flat := true, t := t, app := app, elems := (zeroed e k n).map vI } }
  | 0, k, st, e, hl, hu, h => by rw [show zeroed e k 0 = e from rfl, hu]; rfl
  | n + 1, k, st, e, hl, hu, h => by
    have h1 := store_int (x := 0) hl (show k < e.length by omega)
    have h3 := clear_ints (t := t) (app := app) n (k + 1) { st with objs := upd st.objs id { es := 1, flat := true, t := t, app := app, elems := (e.set k 0).map vI } } (e.set k 0) (look_upd_same _ _ _) (upd_upd _ _ _ _) (by rw [List.length_set]; omega)
    unfold clearN
    rw [show ti3.zero = .int .i64 0 from rfl, h1]
    dsimp only at h3 ⊢
    rw [h3, upd_upd]
    rfl
theorem clear_own {id : Nat} {t app : Bool} {n k : Nat} {objs : List (Nat × Ob)} {e : List Int} (hl : look objs id = some { es := 1, flat := true, t := t, app := app, elems := e.map vI }) (hu : upd objs id { es := 1, flat := true, t := t, app := app, elems := e.map vI } = objs) (h : k + n ≤ e.length) (slots : List V) (outer : List (List V)) :
    evClear { ty := .int .i64, size := 1, bytes := 8, zero := .int .i64 0 } (.own id k n) { slots := slots, outer := outer, objs := objs } = some { slots := slots, outer := outer, objs := upd objs id { es := 1, flat := true, t := t, app := app, elems := (zeroed e k n).map vI } } := by
  have h2 := clear_ints n k { slots := slots, outer := outer, objs := objs } e hl hu h
  show evClear ti3 _ _ = _
  unfold evClear
  simp only [hl]
  by_cases hn : 0 < n
  · rw [if_pos ⟨rfl, hn⟩]
    exact h2
  · rw [if_neg (fun hh => hn hh.2), if_pos (by omega)]
    rw [show n = 0 by omega, show zeroed e k 0 = e from rfl, hu]

theorem okT101 : okCode (Try.f101.body.getD .skip) = true := by decide +kernel
set_option maxRecDepth 20000 in
set_option maxHeartbeats 16000000 in
theorem c101 (b id : Nat) (outer : List (List V)) (objs : List (Nat × Ob)) (m : List Int) (hn : m.length ≤ 1000000) (t app : Bool) (hl : look objs id = some { es := 1, flat := true, t := t, app := app, elems := m.map vI })
    (hu : upd objs id { es := 1, flat := true, t := t, app := app, elems := m.map vI } = objs) :
    ∃ (sl : List V) (e : List Int), (orcω E X0).inl b 101 [.own id 0 m.length] { slots := [], outer := outer, objs := objs } = some (.own id 0 (runsTo m m.length), { slots := sl, outer := outer, objs := upd objs id { es := 1, flat := true, t := t, app := app, elems := e.map vI } }) := by
  refine (fun h : ∃ (sl : List V) (e : List Int), _ = some (V.own id 0 (runsTo m m.length), ({ slots := sl, outer := outer, objs := upd objs id { es := 1, flat := true, t := t, app := app, elems := e.map vI } } : St)) => h.elim fun sl h => h.elim fun e h => ⟨sl, e, inl_of rfl fn101 rfl h⟩) ?_
  have hok := okT101
  simp only [Try.f101, Option.getD_some, okCode, Bool.and_eq_true, Bool.and_true, Bool.true_and] at hok
  obtain ⟨hk1, hk2⟩ := hok
  by_cases h2 : (m.length : Int) < 2
  · have e1 : runsTo m m.length = m.length := by
      rcases Nat.lt_or_ge m.length 1 with h | h
      · have : m.length = 0 := by omega
        rw [this]; rfl
      · have : m.length = 1 := by omega
        rw [this]; rfl
    rw [e1]
    simp (maxSteps := 1000000) (implicitDefEqProofs := false) only [Try.ntmps101, Try.results101, efc101, fc101, h2, ss, sd, evOp, evPlain, evVal, evMem, St.get, sliceOf, arrayOf, fieldsOf, normOf, norm, look, evVar, evFieldAddr, nameOf, St.alloc, St.drop, killOb, part, splice, depth, resultsV, ↓reduceIte, Nat.reduceBEq, Nat.reduceAdd, Nat.reduceSub, Nat.reduceMul, Nat.reduceEqDiff, Nat.reduceLeDiff, Nat.reduceLT, effOf, effMem, effVar, effLit, effMake, effApp, lend, evLit, evNil, freeze, evField, evIndexT, orNil, evSlice, placeOf, evMap, mapOf, keyOk, evFrame, closed, fixed, sameEs, wit, Option.isSome_some, St.with, wantedD, Array.size, te, einl, inls, efr]
    exact ⟨_, m, by rw [hu]⟩
  simp (maxSteps := 1000000) (implicitDefEqProofs := false) only [Try.ntmps101, Try.results101, efc101, fc101, h2, ss, sd, evOp, evPlain, evVal, evMem, St.get, sliceOf, arrayOf, fieldsOf, normOf, norm, look, evVar, evFieldAddr, nameOf, St.alloc, St.drop, killOb, part, splice, depth, resultsV, ↓reduceIte, Nat.reduceBEq, Nat.reduceAdd, Nat.reduceSub, Nat.reduceMul, Nat.reduceEqDiff, Nat.reduceLeDiff, Nat.reduceLT, effOf, effMem, effVar, effLit, effMake, effApp, lend, evLit, evNil, freeze, evField, evIndexT, orNil, evSlice, placeOf, evMap, mapOf, keyOk, evFrame, closed, fixed, sameEs, wit, Option.isSome_some, St.with, wantedD, Array.size, te, einl, inls, efr]
  generalize hr : loopAt _ _ _ _ _ _ = r; revert r
  refine loop_inv (ι := { k : Nat // k + 1 ≤ m.length ∧ runsTo m (k + 1) = k + 1 }) (fun k => [(3, .int .i64 ((k.1 + 1 : Nat) : Int))]) (fun _ => []) (fun k => m.length - k.1) ⟨0, by omega, rfl⟩ (by simp (maxSteps := 1000000) (implicitDefEqProofs := false) only [Nat.zero_add, Int.natCast_one, ss, sd, evOp, evPlain, evVal, evMem, St.get, sliceOf, arrayOf, fieldsOf, normOf, norm, look, evVar, evFieldAddr, nameOf, St.alloc, St.drop, killOb, part, splice, depth, resultsV, ↓reduceIte, Nat.reduceBEq, Nat.reduceAdd, Nat.reduceSub, Nat.reduceMul, Nat.reduceEqDiff, Nat.reduceLeDiff, Nat.reduceLT, effOf, effMem, effVar, effLit, effMake, effApp, lend, evLit, evNil, freeze, evField, evIndexT, orNil, evSlice, placeOf, evMap, mapOf, keyOk, evFrame, closed, fixed, sameEs, wit, Option.isSome_some, St.with, wantedD, Array.size, te, einl, inls, efr]) ?_
  rintro ⟨k, hk, hr⟩
  dsimp only
  by_cases hlt : ((k + 1 : Nat) : Int) < m.length
  rotate_left
  · have e1 : m.length = k + 1 := by omega
    have e2 : runsTo m m.length = m.length := by rw [e1, hr]
    rw [e2]
    simp (maxSteps := 1000000) (implicitDefEqProofs := false) only [hlt, Try.ntmps101, Try.results101, efc101, fc101, ss, sd, evOp, evPlain, evVal, evMem, St.get, sliceOf, arrayOf, fieldsOf, normOf, norm, look, evVar, evFieldAddr, nameOf, St.alloc, St.drop, killOb, part, splice, depth, resultsV, ↓reduceIte, Nat.reduceBEq, Nat.reduceAdd, Nat.reduceSub, Nat.reduceMul, Nat.reduceEqDiff, Nat.reduceLeDiff, Nat.reduceLT, effOf, effMem, effVar, effLit, effMake, effApp, lend, evLit, evNil, freeze, evField, evIndexT, orNil, evSlice, placeOf, evMap, mapOf, keyOk, evFrame, closed, fixed, sameEs, wit, Option.isSome_some, St.with, wantedD, Array.size, te, einl, inls, efr]
    exact ⟨_, m, by rw [hu]⟩
  have gx : m[k + 1]? = some (m[k + 1]'(by omega)) := List.getElem?_eq_getElem _
  have gy : m[k]? = some (m[k]'(by omega)) := List.getElem?_eq_getElem _
  have hnew := fun h => runs_new (m := m) gx gy h
  have hold := fun h => runs_old (m := m) gx gy h
  generalize m[k + 1]'(by omega) = x at *
  generalize m[k]'(by omega) = y at *
  have w1 : IntKind.i64.wrap (((k + 1 : Nat) : Int) + 1) = ((k + 1 + 1 : Nat) : Int) := by rw [wrap_in (by omega)]; omega
  have w2 : IntKind.i64.wrap (((k + 1 : Nat) : Int) - 1) = (k : Nat) := by rw [wrap_in (by omega)]; omega
  have u2 : (k : Int) < m.length := by omega
  by_cases hxy : x = y
  rotate_left
  · have q1 : (x == y) = false := by simpa using hxy
    have e1 := hnew hxy
    simp (maxSteps := 1000000) (implicitDefEqProofs := false) only [hlt, u2, w1, w2, gx, gy, q1, vI, hl, evRegion_st hk1, Int.natCast_nonneg, Int.toNat_natCast, List.getElem?_map, ss, sd, evOp, evPlain, evVal, evMem, St.get, sliceOf, arrayOf, fieldsOf, normOf, norm, look, evVar, evFieldAddr, nameOf, St.alloc, St.drop, killOb, part, splice, depth, resultsV, ↓reduceIte, Nat.reduceBEq, Nat.reduceAdd, Nat.reduceSub, Nat.reduceMul, Nat.reduceEqDiff, Nat.reduceLeDiff, Nat.reduceLT, effOf, effMem, effVar, effLit, effMake, effApp, lend, evLit, evNil, freeze, evField, evIndexT, orNil, evSlice, placeOf, evMap, mapOf, keyOk, evFrame, closed, fixed, sameEs, wit, Option.isSome_some, St.with, wantedD, Array.size, te, einl, inls, efr]
    rw [hr] at e1
    exact ⟨⟨k + 1, by omega, e1⟩, rfl, by dsimp only; omega⟩
  have q1 : (x == y) = true := by simpa using hxy
  have e0 := hold hxy
  rw [hr] at e0
  have u3 : ((k + 1 : Nat) : Int) ≤ m.length := by omega
  have l3 : ((m.length : Int) - ((k + 1 : Nat) : Int)).toNat = m.length - (k + 1) := by omega
  simp (maxSteps := 1000000) (implicitDefEqProofs := false) only [hlt, u2, u3, w1, w2, l3, gx, gy, q1, vI, hl, Int.le_refl, evRegion_st hk1, Int.natCast_nonneg, Int.toNat_natCast, List.getElem?_map, List.length_map, ss, sd, evOp, evPlain, evVal, evMem, St.get, sliceOf, arrayOf, fieldsOf, normOf, norm, look, evVar, evFieldAddr, nameOf, St.alloc, St.drop, killOb, part, splice, depth, resultsV, ↓reduceIte, Nat.reduceBEq, Nat.reduceAdd, Nat.reduceSub, Nat.reduceMul, Nat.reduceEqDiff, Nat.reduceLeDiff, Nat.reduceLT, effOf, effMem, effVar, effLit, effMake, effApp, lend, evLit, evNil, freeze, evField, evIndexT, orNil, evSlice, placeOf, evMap, mapOf, keyOk, evFrame, closed, fixed, sameEs, wit, Option.isSome_some, St.with, wantedD, Array.size, te, einl, inls, efr]
  generalize hr : loopAt _ _ _ _ _ _ = r; revert r
  refine loop_inv (ι := { p : Nat × List Int // 1 ≤ p.1 ∧ k + 1 + p.1 ≤ m.length ∧ p.2.length = m.length ∧ runsTo m (k + 1 + p.1) ≤ k + p.1 ∧ ∀ q, runsTo m (k + 1 + p.1) ≤ q → p.2[q]? = m[q]? }) (fun p => [(3, .int .i64 (runsTo m (k + 1 + p.1.1) : Nat)), (5, .int .i64 (p.1.1 : Nat))]) (fun p => [(id, { es := 1, flat := true, t := t, app := app, elems := p.1.2.map vI })]) (fun p => m.length - p.1.1)
    ⟨(1, m), Nat.le_refl 1, by dsimp only; omega, rfl, by dsimp only; rw [e0]; exact Nat.le_refl _, fun _ _ => rfl⟩ (by simp (maxSteps := 1000000) (implicitDefEqProofs := false) only [hu, e0, Int.natCast_one, ss, sd, evOp, evPlain, evVal, evMem, St.get, sliceOf, arrayOf, fieldsOf, normOf, norm, look, evVar, evFieldAddr, nameOf, St.alloc, St.drop, killOb, part, splice, depth, resultsV, ↓reduceIte, Nat.reduceBEq, Nat.reduceAdd, Nat.reduceSub, Nat.reduceMul, Nat.reduceEqDiff, Nat.reduceLeDiff, Nat.reduceLT, effOf, effMem, effVar, effLit, effMake, effApp, lend, evLit, evNil, freeze, evField, evIndexT, orNil, evSlice, placeOf, evMap, mapOf, keyOk, evFrame, closed, fixed, sameEs, wit, Option.isSome_some, St.with, wantedD, Array.size, te, einl, inls, efr]) ?_
  rintro ⟨⟨i, e⟩, h1, h3, h4, h5, h6⟩
  dsimp only at h1 h3 h4 h5 h6 ⊢
  have l5 : ((m.length - (k + 1) : Nat) : Int) = (m.length : Int) - ((k + 1 : Nat) : Int) := by omega
  by_cases hi : (i : Int) < ((m.length - (k + 1) : Nat) : Int)
  rotate_left
  · have e1 : k + 1 + i = m.length := by omega
    rw [e1] at h5 h6 ⊢
    have c2 := clear_own (id := id) (t := t) (app := app) (n := m.length - runsTo m m.length) (k := runsTo m m.length) (objs := upd objs id { es := 1, flat := true, t := t, app := app, elems := e.map vI }) (e := e) (look_upd_same _ _ _) (upd_upd _ _ _ _) (by have := runs_le m m.length; omega)
    have u5 : ((runsTo m m.length : Nat) : Int) ≤ m.length := by have := runs_le m m.length; omega
    have l6 : ((m.length : Int) - ((runsTo m m.length : Nat) : Int)).toNat = m.length - runsTo m m.length := by omega
    have l7 : ((runsTo m m.length : Nat) : Int).toNat - 0 = runsTo m m.length := by omega
    simp (maxSteps := 1000000) (implicitDefEqProofs := false) only [hi, u5, l6, c2, look_upd_same, upd_upd, Int.le_refl, Int.natCast_nonneg, Int.toNat_natCast, Int.sub_zero, Try.ntmps101, Try.results101, efc101, fc101, ss, sd, evOp, evPlain, evVal, evMem, St.get, sliceOf, arrayOf, fieldsOf, normOf, norm, look, evVar, evFieldAddr, nameOf, St.alloc, St.drop, killOb, part, splice, depth, resultsV, ↓reduceIte, Nat.reduceBEq, Nat.reduceAdd, Nat.reduceSub, Nat.reduceMul, Nat.reduceEqDiff, Nat.reduceLeDiff, Nat.reduceLT, effOf, effMem, effVar, effLit, effMake, effApp, lend, evLit, evNil, freeze, evField, evIndexT, orNil, evSlice, placeOf, evMap, mapOf, keyOk, evFrame, closed, fixed, sameEs, wit, Option.isSome_some, St.with, wantedD, Array.size, te, einl, inls, efr]
    exact ⟨_, _, rfl⟩
  · have gx : m[k + 1 + i]? = some (m[k + 1 + i]'(by omega)) := List.getElem?_eq_getElem _
    have gy : m[k + i]? = some (m[k + i]'(by omega)) := List.getElem?_eq_getElem _
    have ex := (h6 (k + 1 + i) (by omega)).trans gx
    have ey := (h6 (k + i) (by omega)).trans gy
    have hnew := fun h => runs_new (m := m) (k := k + i) (by rw [← gx]; congr 1; omega) gy h
    have hold := fun h => runs_old (m := m) (k := k + i) (by rw [← gx]; congr 1; omega) gy h
    rw [show k + i + 2 = k + 1 + (i + 1) by omega, show k + i + 1 = k + 1 + i by omega] at hnew hold
    generalize m[k + 1 + i]'(by omega) = x' at *
    generalize m[k + i]'(by omega) = y' at *
    have w3 : IntKind.i64.wrap ((i : Int) + 1) = ((i + 1 : Nat) : Int) := by rw [wrap_in (by omega)]; omega
    have w4 : IntKind.i64.wrap ((i : Int) - 1) = ((i - 1 : Nat) : Int) := by rw [wrap_in (by omega)]; omega
    have u6 : ((i - 1 : Nat) : Int) < ((m.length - (k + 1) : Nat) : Int) := by omega
    have i1 : k + 1 + (i - 1) = k + i := by omega
    by_cases hxy' : x' = y'
    · have q2 : (x' != y') = false := by simpa using hxy'
      have e1 := hold hxy'
      simp (maxSteps := 1000000) (implicitDefEqProofs := false) only [hi, u6, i1, w3, w4, ex, ey, q2, vI, look_upd_same, upd_upd, evRegion_st hk2, Int.natCast_nonneg, Int.toNat_natCast, List.getElem?_map, List.length_map, ss, sd, evOp, evPlain, evVal, evMem, St.get, sliceOf, arrayOf, fieldsOf, normOf, norm, look, evVar, evFieldAddr, nameOf, St.alloc, St.drop, killOb, part, splice, depth, resultsV, ↓reduceIte, Nat.reduceBEq, Nat.reduceAdd, Nat.reduceSub, Nat.reduceMul, Nat.reduceEqDiff, Nat.reduceLeDiff, Nat.reduceLT, effOf, effMem, effVar, effLit, effMake, effApp, lend, evLit, evNil, freeze, evField, evIndexT, orNil, evSlice, placeOf, evMap, mapOf, keyOk, evFrame, closed, fixed, sameEs, wit, Option.isSome_some, St.with, wantedD, Array.size, te, einl, inls, efr]
      exact ⟨⟨(i + 1, e), by dsimp only; omega, by dsimp only; omega, h4, by dsimp only; rw [e1]; omega, by dsimp only; rw [e1]; exact h6⟩, by dsimp only; rw [e1], by dsimp only; omega⟩
    · have q2 : (x' != y') = true := by simpa using hxy'
      have e1 := hnew hxy'
      have gr : runsTo m (k + 1 + i) < e.length := by omega
      have er : e[runsTo m (k + 1 + i)]? = some e[runsTo m (k + 1 + i)] := List.getElem?_eq_getElem gr
      have es1 : (e.map vI).set (runsTo m (k + 1 + i)) (.int .i64 x') = (e.set (runsTo m (k + 1 + i)) x').map vI := by rw [List.map_set]; rfl
      have u7 : ((runsTo m (k + 1 + i) : Nat) : Int) < m.length := by omega
      have w5 : IntKind.i64.wrap (((runsTo m (k + 1 + i) : Nat) : Int) + 1) = ((runsTo m (k + 1 + (i + 1)) : Nat) : Int) := by rw [e1, wrap_in (by omega)]; omega
      have h7 : ∀ q, runsTo m (k + 1 + (i + 1)) ≤ q → (e.set (runsTo m (k + 1 + i)) x')[q]? = m[q]? := fun q hq => by
        rw [List.getElem?_set_ne (by omega)]
        exact h6 q (by omega)
      generalize e[runsTo m (k + 1 + i)] = old at *
      simp (maxSteps := 1000000) (implicitDefEqProofs := false) only [hi, u6, u7, i1, w3, w4, w5, ex, ey, er, es1, q2, vI, look_upd_same, upd_upd, evRegion_st hk2, Int.natCast_nonneg, Int.toNat_natCast, List.getElem?_map, List.length_map, ss, sd, evOp, evPlain, evVal, evMem, St.get, sliceOf, arrayOf, fieldsOf, normOf, norm, look, evVar, evFieldAddr, nameOf, St.alloc, St.drop, killOb, part, splice, depth, resultsV, ↓reduceIte, Nat.reduceBEq, Nat.reduceAdd, Nat.reduceSub, Nat.reduceMul, Nat.reduceEqDiff, Nat.reduceLeDiff, Nat.reduceLT, effOf, effMem, effVar, effLit, effMake, effApp, lend, evLit, evNil, freeze, evField, evIndexT, orNil, evSlice, placeOf, evMap, mapOf, keyOk, evFrame, closed, fixed, sameEs, wit, Option.isSome_some, St.with, wantedD, Array.size, te, einl, inls, efr]
      exact ⟨⟨(i + 1, e.set (runsTo m (k + 1 + i)) x'), by dsimp only; omega, by dsimp only; omega, by dsimp only; rw [List.length_set]; exact h4, by dsimp only; omega, h7⟩, rfl, by dsimp only; omega⟩
end Go.AM.D
