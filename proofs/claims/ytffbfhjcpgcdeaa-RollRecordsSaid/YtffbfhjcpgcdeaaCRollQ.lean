import Derived.Test.YtffbfhjcpgcdeaaCRollP
set_option linter.unusedVariables false
set_option linter.unusedSimpArgs false
set_option maxRecDepth 20000

namespace Go.AM.C
open Go Go.Proofs

def swp (ps : List (Int × Int)) (i : Nat) : List (Int × Int) := (List.range ps.length).map fun m => if m < i ∨ ps.length - i ≤ m then ps.getD (ps.length - 1 - m) (0, 0) else ps.getD m (0, 0)

theorem swp_len (ps : List (Int × Int)) (i : Nat) : (swp ps i).length = ps.length := by simp [swp]
theorem swp_get {ps : List (Int × Int)} {i m : Nat} (h : m < ps.length) : (swp ps i)[m]? = some (if m < i ∨ ps.length - i ≤ m then ps.getD (ps.length - 1 - m) (0, 0) else ps.getD m (0, 0)) := by
  unfold swp
  rw [List.getElem?_map, List.getElem?_range h, Option.map_some]
theorem getD_get {ps : List (Int × Int)} {m : Nat} (h : m < ps.length) : ps[m]? = some (ps.getD m (0, 0)) := by
  rw [List.getD_eq_getElem?_getD, List.getElem?_eq_getElem h, Option.getD_some]

theorem swp_zero (ps : List (Int × Int)) : swp ps 0 = ps := by
  apply List.ext_getElem?
  intro m
  by_cases h : m < ps.length
  · rw [swp_get h, if_neg (by omega), getD_get h]
  · rw [List.getElem?_eq_none (by rw [swp_len]; omega), List.getElem?_eq_none (by omega)]

theorem swp_end {ps : List (Int × Int)} {i : Nat} (h : ps.length ≤ 2 * i + 1) : swp ps i = ps.reverse := by
  apply List.ext_getElem?
  intro m
  by_cases hm : m < ps.length
  · rw [swp_get hm, List.getElem?_reverse hm, getD_get (by omega)]
    by_cases c : m < i ∨ ps.length - i ≤ m
    · rw [if_pos c]
    · rw [if_neg c, show ps.length - 1 - m = m by omega]
  · rw [List.getElem?_eq_none (by rw [swp_len]; omega), List.getElem?_eq_none (by rw [List.length_reverse]; omega)]

theorem swp_step {ps : List (Int × Int)} {i : Nat} (h : 2 * i + 1 < ps.length) : ((swp ps i).set i (ps.getD (ps.length - 1 - i) (0, 0))).set (ps.length - 1 - i) (ps.getD i (0, 0)) = swp ps (i + 1) := by
  apply List.ext_getElem?
  intro m
  by_cases hm : m < ps.length
  · rw [swp_get hm]
    by_cases e1 : m = ps.length - 1 - i
    · subst e1
      rw [List.getElem?_set_self (by rw [List.length_set, swp_len]; omega), if_pos (by omega), show ps.length - 1 - (ps.length - 1 - i) = i by omega]
    · rw [List.getElem?_set_ne (by omega)]
      by_cases e2 : m = i
      · subst e2
        rw [List.getElem?_set_self (by rw [swp_len]; omega), if_pos (by omega)]
      · rw [List.getElem?_set_ne (by omega), swp_get hm]
        by_cases c : m < i ∨ ps.length - i ≤ m
        · rw [if_pos c, if_pos (by omega)]
        · rw [if_neg c, if_neg (by omega)]
  · rw [List.getElem?_eq_none (by rw [List.length_set, List.length_set, swp_len]; omega), List.getElem?_eq_none (by rw [swp_len]; omega)]

set_option maxHeartbeats 4000000 in
theorem c56 (b id : Nat) (outer : List (List V)) (objs : List (Nat × Ob)) (ps : List (Int × Int)) (hn : ps.length ≤ 1000000) (app : Bool) (hl : look objs id = some { es := 2, flat := true, t := true, app := app, elems := ps.map encPc })
    (hu : upd objs id { es := 2, flat := true, t := true, app := app, elems := ps.map encPc } = objs) :
    ∃ sl, (orcω E X0).inl b 56 [.own id 0 ps.length] { slots := [], outer := outer, objs := objs } = some (.tup [], { slots := sl, outer := outer, objs := upd objs id { es := 2, flat := true, t := true, app := app, elems := ps.reverse.map encPc } }) := by
  refine (fun h : ∃ sl : List V, _ = some (V.tup [], ({ slots := sl, outer := outer, objs := upd objs id { es := 2, flat := true, t := true, app := app, elems := ps.reverse.map encPc } } : St)) => h.elim fun sl h => ⟨sl, inl_of rfl fn56 rfl h⟩) ?_
  have w0 : IntKind.i64.wrap ((ps.length : Int) - 1) = ps.length - 1 := wrap_in (by omega)
  simp (maxSteps := 1000000) (implicitDefEqProofs := false) only [Try.ntmps56, Try.results56, efc56, fc56, w0, ss, sd, zH, qG, zF, zG, St.get, qE, qF, qB, zC, norm, look, zE, qA, qI, St.alloc, St.drop, zA, part, zB, depth, qD, ↓reduceIte, Nat.reduceBEq, Nat.reduceAdd, Nat.reduceSub, Nat.reduceMul, Nat.reduceEqDiff, Nat.reduceLeDiff, Nat.reduceLT, qJ, qK, qL, qM, qN, qO, qP, qQ, qR, zI, qS, qC, qT, evSlice0, qV, qW, qX, qY, qZ, zJ, zK, zL, wit, Option.isSome_some, qH, xJ, evPre, St.with, zD, Array.size, evLitX, evAppX, evCold, nameT, te, einl, inls, efr]
  generalize hr : loopAt _ _ _ _ _ _ = r; revert r
  refine loop_inv (ι := { i : Nat // 2 * i ≤ ps.length + 1 }) (fun i => [(2, .int .i64 i.1), (3, .int .i64 ((ps.length : Int) - 1 - i.1))]) (fun i => [(id, { es := 2, flat := true, t := true, app := app, elems := (swp ps i.1).map encPc })]) (fun i => ps.length - i.1) ⟨0, Nat.zero_le _⟩ (by simp (maxSteps := 1000000) (implicitDefEqProofs := false) only [swp_zero, hu, Int.natCast_zero, Int.sub_zero, ss, sd, zH, qG, zF, zG, St.get, qE, qF, qB, zC, norm, look, zE, qA, qI, St.alloc, St.drop, zA, part, zB, depth, qD, ↓reduceIte, Nat.reduceBEq, Nat.reduceAdd, Nat.reduceSub, Nat.reduceMul, Nat.reduceEqDiff, Nat.reduceLeDiff, Nat.reduceLT, qJ, qK, qL, qM, qN, qO, qP, qQ, qR, zI, qS, qC, qT, evSlice0, qV, qW, qX, qY, qZ, zJ, zK, zL, wit, Option.isSome_some, qH, xJ, evPre, St.with, zD, Array.size, evLitX, evAppX, evCold, nameT, te, einl, inls, efr]) ?_
  rintro ⟨i, hi⟩
  dsimp only
  by_cases hlt : (i : Int) < (ps.length : Int) - 1 - i
  · have w1 : IntKind.i64.wrap ((i : Int) + 1) = ((i + 1 : Nat) : Int) := by rw [wrap_in (by omega)]; omega
    have w2 : IntKind.i64.wrap ((ps.length : Int) - 1 - i - 1) = (ps.length : Int) - 1 - ((i + 1 : Nat) : Int) := by rw [wrap_in (by omega)]; omega
    have n1 : ((ps.length : Int) - 1 - i).toNat = ps.length - 1 - i := by omega
    have u1 : (0 ≤ (ps.length : Int) - 1 - i) = True := eq_true (by omega)
    have u2 : ((ps.length : Int) - 1 - i < (ps.length : Int)) = True := eq_true (by omega)
    have u3 : ((i : Int) < (ps.length : Int)) = True := eq_true (by omega)
    have g1 : (swp ps i)[i]? = some (ps.getD i (0, 0)) := by rw [swp_get (by omega), if_neg (by omega)]
    have g2 : (swp ps i)[ps.length - 1 - i]? = some (ps.getD (ps.length - 1 - i) (0, 0)) := by rw [swp_get (by omega), if_neg (by omega)]
    have st := swp_step (ps := ps) (i := i) (by omega)
    generalize ps.getD i (0, 0) = x at *
    generalize ps.getD (ps.length - 1 - i) (0, 0) = y at *
    have g3 : (((swp ps i).map encPc).set i (.agg [.int .i64 y.1, .int .i64 y.2])).set (ps.length - 1 - i) (.agg [.int .i64 x.1, .int .i64 x.2]) = (swp ps (i + 1)).map encPc := by
      rw [← st, List.map_set, List.map_set]; rfl
    have g4 : (((swp ps i).map encPc).set i (.agg [.int .i64 y.1, .int .i64 y.2]))[ps.length - 1 - i]? = some (.agg [.int .i64 y.1, .int .i64 y.2]) := by
      rw [List.getElem?_set_ne (by omega), List.getElem?_map, g2]; rfl
    simp (maxSteps := 1000000) (implicitDefEqProofs := false) only [hlt, look_upd_same, upd_upd, w1, w2, n1, u1, u2, u3, g1, g2, g3, g4, encPc, Int.natCast_nonneg, Int.toNat_natCast, List.getElem?_map, ss, sd, zH, qG, zF, zG, St.get, qE, qF, qB, zC, norm, look, zE, qA, qI, St.alloc, St.drop, zA, part, zB, depth, qD, ↓reduceIte, Nat.reduceBEq, Nat.reduceAdd, Nat.reduceSub, Nat.reduceMul, Nat.reduceEqDiff, Nat.reduceLeDiff, Nat.reduceLT, qJ, qK, qL, qM, qN, qO, qP, qQ, qR, zI, qS, qC, qT, evSlice0, qV, qW, qX, qY, qZ, zJ, zK, zL, wit, Option.isSome_some, qH, xJ, evPre, St.with, zD, Array.size, evLitX, evAppX, evCold, nameT, te, einl, inls, efr]
    rw [evRegion_dynB]
    rotate_left
    · rfl
    simp (maxSteps := 1000000) (implicitDefEqProofs := false) only [hlt, look_upd_same, upd_upd, w1, w2, n1, u1, u2, u3, g1, g2, g3, g4, encPc, Int.natCast_nonneg, Int.toNat_natCast, List.getElem?_map, ss, sd, zH, qG, zF, zG, St.get, qE, qF, qB, zC, norm, look, zE, qA, qI, St.alloc, St.drop, zA, part, zB, depth, qD, ↓reduceIte, Nat.reduceBEq, Nat.reduceAdd, Nat.reduceSub, Nat.reduceMul, Nat.reduceEqDiff, Nat.reduceLeDiff, Nat.reduceLT, qJ, qK, qL, qM, qN, qO, qP, qQ, qR, zI, qS, qC, qT, evSlice0, qV, qW, qX, qY, qZ, zJ, zK, zL, wit, Option.isSome_some, qH, xJ, evPre, St.with, zD, Array.size, evLitX, evAppX, evCold, nameT, te, einl, inls, efr]
    exact ⟨⟨i + 1, by omega⟩, rfl, by dsimp only; omega⟩
  · rw [show swp ps i = ps.reverse from swp_end (by omega)]
    simp (maxSteps := 1000000) (implicitDefEqProofs := false) only [hlt, Try.ntmps56, Try.results56, efc56, fc56, ss, sd, zH, qG, zF, zG, St.get, qE, qF, qB, zC, norm, look, zE, qA, qI, St.alloc, St.drop, zA, part, zB, depth, qD, ↓reduceIte, Nat.reduceBEq, Nat.reduceAdd, Nat.reduceSub, Nat.reduceMul, Nat.reduceEqDiff, Nat.reduceLeDiff, Nat.reduceLT, qJ, qK, qL, qM, qN, qO, qP, qQ, qR, zI, qS, qC, qT, evSlice0, qV, qW, qX, qY, qZ, zJ, zK, zL, wit, Option.isSome_some, qH, xJ, evPre, St.with, zD, Array.size, evLitX, evAppX, evCold, nameT, te, einl, inls, efr]
    exact ⟨_, rfl⟩

end Go.AM.C

