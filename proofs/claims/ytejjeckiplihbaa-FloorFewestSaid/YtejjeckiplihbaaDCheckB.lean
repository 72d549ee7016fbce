/-
The first error of cuts: the document.
-/
import Derived.Test.YtejjeckiplihbaaDCheck
set_option linter.unusedSimpArgs false
set_option maxRecDepth 20000

namespace Go.AM.D
open Go Go.AM Go.Proofs

theorem c52 (j : Job) (cuts : List Cut) (hn : cuts.length ≤ 1000000000) : (orcω E X0).call 52 [encJob j, .sl false (cuts.map encCut)] = some (.int .i64 (checkM j cuts)) := by
  refine call_of rfl fn52 rfl ?_
  have k1 := c50 j
  unfold checkM
  by_cases he : jobE j = 0
  · rw [if_pos he]
    have k2 := c84 j cuts (jobE_zero he).1 hn
    rw [he] at k1
    unfold encJob at k1 k2 ⊢
    simp (maxSteps := 1000000) (implicitDefEqProofs := false) only [Try.ntmps52, Try.results52, efc52, k1, k2, bne_self_eq_false, ss, sd, evOp, evPlain, evVal, evMem, St.get, sliceOf, arrayOf, fieldsOf, normOf, norm, look, evVar, evFieldAddr, nameOf, St.alloc, St.drop, killOb, part, splice, depth, resultsV, ↓reduceIte, Nat.reduceBEq, Nat.reduceAdd, Nat.reduceSub, Nat.reduceMul, Nat.reduceEqDiff, Nat.reduceLeDiff, Nat.reduceLT, effOf, effMem, effVar, effLit, effMake, effApp, lend, evLit, evNil, freeze, evField, evIndexT, orNil, evSlice, placeOf, evMap, mapOf, keyOk, evFrame, closed, fixed, sameEs, wit, Option.isSome_some, St.with, wantedD, Array.size, te, einl, inls, efr]
  · rw [if_neg he]
    have q1 : (jobE j != 0) = true := by simpa using he
    generalize jobE j = e at *
    unfold encJob at k1 ⊢
    simp (maxSteps := 1000000) (implicitDefEqProofs := false) only [Try.ntmps52, Try.results52, efc52, k1, q1, ss, sd, evOp, evPlain, evVal, evMem, St.get, sliceOf, arrayOf, fieldsOf, normOf, norm, look, evVar, evFieldAddr, nameOf, St.alloc, St.drop, killOb, part, splice, depth, resultsV, ↓reduceIte, Nat.reduceBEq, Nat.reduceAdd, Nat.reduceSub, Nat.reduceMul, Nat.reduceEqDiff, Nat.reduceLeDiff, Nat.reduceLT, effOf, effMem, effVar, effLit, effMake, effApp, lend, evLit, evNil, freeze, evField, evIndexT, orNil, evSlice, placeOf, evMap, mapOf, keyOk, evFrame, closed, fixed, sameEs, wit, Option.isSome_some, St.with, wantedD, Array.size, te, einl, inls, efr]

theorem inf102 : (drawn (Try.f102.body.getD .skip)).map infosOf = [[([], false), ([], false), ([], false), ([], false), ([], false), ([], false), ([], false), ([], false), ([], false), ([], false), ([], false), ([], false), ([1, 3, 4, 5, 7, 9, 10, 11], false), ([1, 3, 4, 5, 7, 9, 10, 11, 12], false), ([7, 9, 10, 11], false), ([], true)], [([], false), ([], false), ([], false), ([], false), ([], false), ([], false), ([], false), ([], true)], [([], true), ([], true), ([], true), ([], true), ([], false), ([], false), ([], false), ([], false), ([], false), ([], false), ([], false), ([], true), ([], true)], [([], false), ([], false), ([], false), ([], false), ([], false), ([], false), ([], false), ([], false), ([], false), ([], false), ([], false), ([], false), ([], false), ([], true), ([], true), ([], false), ([], false), ([], false), ([], false), ([], false), ([], false), ([], false), ([], false), ([], false), ([], false), ([], false), ([], true), ([], true)], [([], false), ([], false), ([], false), ([], false), ([], false), ([], false), ([], false), ([], true), ([], true), ([], false), ([], false), ([], false), ([], false), ([], false), ([], false), ([], false), ([], false), ([], false), ([], false), ([], true), ([], true), ([], true), ([], false), ([], false), ([], false), ([], false), ([], false), ([], false), ([], false), ([], false), ([], false), ([], false), ([], false), ([], false), ([], false), ([], false), ([], false), ([], false), ([], false), ([], false), ([], true), ([], true)]] := by decide +kernel
theorem okD102 : (drawn (Try.f102.body.getD .skip)).all okBad = true := by decide +kernel

set_option maxRecDepth 20000 in
set_option maxHeartbeats 16000000 in
theorem c102 (j : Job) (cuts pre post : List Cut) (x : Cut) (hj : Right j) (hn : cuts.length ≤ 1000000000) (hp : cuts = pre ++ x :: post) (hg : Good j pre) :
    (orcω E X0).call 102 [encJob j, .sl false (cuts.map encCut), .int .i64 pre.length] = some (.int .i64 (oneE j (head0 cuts) pre x)) := by
  refine call_of rfl fn102 rfl ?_
  have hi := inf102
  have ho := okD102
  simp only [Try.f102, Option.getD_some, drawn, List.map_cons, List.map_nil, List.nil_append, List.append_nil, List.cons_append, List.cons.injEq, and_true] at hi
  simp only [Try.f102, Option.getD_some, drawn, List.nil_append, List.append_nil, List.cons_append, List.all_cons, List.all_nil, Bool.and_true, Bool.and_eq_true] at ho
  obtain ⟨hi1, hi2, hi3, hi4, hi5⟩ := hi
  obtain ⟨ho1, ho2, ho3, ho4, ho5⟩ := ho
  have h6 := hj.nss
  have h5 := hj.nrs
  have g1 : (pre.length : Int) < cuts.length := by rw [hp]; simp; omega
  have g2 : cuts[pre.length]? = some x := by rw [hp]; simp
  have bad : ∀ e, oneE j (head0 cuts) pre x = e → oneE j (head0 cuts) pre x = e := fun e h => h
  by_cases p1 : 0 ≤ x.s ∧ x.s < j.ss.length
  rotate_left
  · have e1 := bad 5 (oneE_5 (by rw [Bool.eq_false_iff]; intro h; have := inCut_iff.1 h; omega))
    generalize oneE j (head0 cuts) pre x = res at *
    by_cases a1 : x.s < 0
    · simp (maxSteps := 1000000) (implicitDefEqProofs := false) only [Try.ntmps102, Try.results102, efc102, fc102, encJob, g1, g2, a1, e1, encCut, Int.natCast_nonneg, Int.toNat_natCast, List.getElem?_map, List.length_map, ss, sd, evOp, evPlain, evVal, evMem, St.get, sliceOf, arrayOf, fieldsOf, normOf, norm, look, evVar, evFieldAddr, nameOf, St.alloc, St.drop, killOb, part, splice, depth, resultsV, ↓reduceIte, Nat.reduceBEq, Nat.reduceAdd, Nat.reduceSub, Nat.reduceMul, Nat.reduceEqDiff, Nat.reduceLeDiff, Nat.reduceLT, effOf, effMem, effVar, effLit, effMake, effApp, lend, evLit, evNil, freeze, evField, evIndexT, orNil, evSlice, placeOf, evMap, mapOf, keyOk, evFrame, closed, fixed, sameEs, wit, Option.isSome_some, St.with, wantedD, Array.size, te, einl, inls, efr]
    · have a2 : (j.ss.length : Int) ≤ x.s := by omega
      simp (maxSteps := 1000000) (implicitDefEqProofs := false) only [Try.ntmps102, Try.results102, efc102, fc102, encJob, g1, g2, a1, a2, e1, encCut, Int.natCast_nonneg, Int.toNat_natCast, List.getElem?_map, List.length_map, ss, sd, evOp, evPlain, evVal, evMem, St.get, sliceOf, arrayOf, fieldsOf, normOf, norm, look, evVar, evFieldAddr, nameOf, St.alloc, St.drop, killOb, part, splice, depth, resultsV, ↓reduceIte, Nat.reduceBEq, Nat.reduceAdd, Nat.reduceSub, Nat.reduceMul, Nat.reduceEqDiff, Nat.reduceLeDiff, Nat.reduceLT, effOf, effMem, effVar, effLit, effMake, effApp, lend, evLit, evNil, freeze, evField, evIndexT, orNil, evSlice, placeOf, evMap, mapOf, keyOk, evFrame, closed, fixed, sameEs, wit, Option.isSome_some, St.with, wantedD, Array.size, te, einl, inls, efr]
  by_cases p2 : 0 ≤ x.r ∧ x.r < j.rs.length
  rotate_left
  · have e1 := bad 5 (oneE_5 (by rw [Bool.eq_false_iff]; intro h; have := inCut_iff.1 h; omega))
    generalize oneE j (head0 cuts) pre x = res at *
    have a1 : ¬ x.s < 0 := by omega
    have a2 : ¬ (j.ss.length : Int) ≤ x.s := by omega
    by_cases a3 : x.r < 0
    · simp (maxSteps := 1000000) (implicitDefEqProofs := false) only [Try.ntmps102, Try.results102, efc102, fc102, encJob, g1, g2, a1, a2, a3, e1, encCut, Int.natCast_nonneg, Int.toNat_natCast, List.getElem?_map, List.length_map, ss, sd, evOp, evPlain, evVal, evMem, St.get, sliceOf, arrayOf, fieldsOf, normOf, norm, look, evVar, evFieldAddr, nameOf, St.alloc, St.drop, killOb, part, splice, depth, resultsV, ↓reduceIte, Nat.reduceBEq, Nat.reduceAdd, Nat.reduceSub, Nat.reduceMul, Nat.reduceEqDiff, Nat.reduceLeDiff, Nat.reduceLT, effOf, effMem, effVar, effLit, effMake, effApp, lend, evLit, evNil, freeze, evField, evIndexT, orNil, evSlice, placeOf, evMap, mapOf, keyOk, evFrame, closed, fixed, sameEs, wit, Option.isSome_some, St.with, wantedD, Array.size, te, einl, inls, efr]
    · have a4 : (j.rs.length : Int) ≤ x.r := by omega
      simp (maxSteps := 1000000) (implicitDefEqProofs := false) only [Try.ntmps102, Try.results102, efc102, fc102, encJob, g1, g2, a1, a2, a3, a4, e1, encCut, Int.natCast_nonneg, Int.toNat_natCast, List.getElem?_map, List.length_map, ss, sd, evOp, evPlain, evVal, evMem, St.get, sliceOf, arrayOf, fieldsOf, normOf, norm, look, evVar, evFieldAddr, nameOf, St.alloc, St.drop, killOb, part, splice, depth, resultsV, ↓reduceIte, Nat.reduceBEq, Nat.reduceAdd, Nat.reduceSub, Nat.reduceMul, Nat.reduceEqDiff, Nat.reduceLeDiff, Nat.reduceLT, effOf, effMem, effVar, effLit, effMake, effApp, lend, evLit, evNil, freeze, evField, evIndexT, orNil, evSlice, placeOf, evMap, mapOf, keyOk, evFrame, closed, fixed, sameEs, wit, Option.isSome_some, St.with, wantedD, Array.size, te, einl, inls, efr]
  have hin : inCut j x = true := inCut_iff.2 ⟨p1.1, p1.2, p2.1, p2.2⟩
  obtain ⟨k, hk⟩ : ∃ k : Nat, x.s = k := ⟨x.s.toNat, by omega⟩
  obtain ⟨m, hm⟩ : ∃ m : Nat, x.r = m := ⟨x.r.toNat, by omega⟩
  have gs := size_get (j := j) hk (by omega)
  have gr := shade_get (j := j) hm (by omega)
  have hs := hj.ss _ (List.mem_of_getElem? gs)
  have hr := hj.rs _ (List.mem_of_getElem? gr)
  have kk : (k : Int) < j.ss.length := by omega
  have km : (m : Int) < j.rs.length := by omega
  have n1 : ¬ (k : Int) < 0 := by omega
  have n2 : ¬ (j.ss.length : Int) ≤ k := by omega
  have n3 : ¬ (m : Int) < 0 := by omega
  have n4 : ¬ (j.rs.length : Int) ≤ m := by omega
  obtain ⟨q1, q2⟩ := head_get hp
  have hc0 : 0 ≤ (head0 cuts).r ∧ (head0 cuts).r < j.rs.length := by
    rcases q2 with q2 | q2
    · have := hg _ q2; omega
    · rw [q2]; exact p2
  obtain ⟨m0, hm0⟩ : ∃ m0 : Nat, (head0 cuts).r = m0 := ⟨(head0 cuts).r.toNat, by omega⟩
  have gr0 := shade_get (j := j) hm0 (by omega)
  have km0 : (m0 : Int) < j.rs.length := by omega
  have k107 := c107 (stripOf j x) hs.2
  have fit : fits j x = (decide (0 ≤ x.a) && decide (x.a ≤ (rollOf j x).l - sizeM (stripOf j x))) := rfl
  have hsz : sizeM (stripOf j x) = (stripOf j x).b - (stripOf j x).a := rfl
  have w1 : IntKind.i64.wrap ((rollOf j x).l - sizeM (stripOf j x)) = (rollOf j x).l - sizeM (stripOf j x) := wrap_in (by omega)
  have bad8 := fun h => oneE_8 (c0 := head0 cuts) (pre := pre) hin h
  have bad11 := fun ca h => oneE_11 (c0 := head0 cuts) (pre := pre) hin ca h
  have bad13 := fun ca h1 h2 => oneE_13 (c0 := head0 cuts) (pre := pre) hin ca h1 h2
  have bad10 := fun ca h1 h2 h3 => oneE_10 (c0 := head0 cuts) (pre := pre) hin ca h1 h2 h3
  have ok0 := fun ca h1 h2 h3 => oneE_0 (c0 := head0 cuts) (pre := pre) hin ca h1 h2 h3
  have cl : ∀ y, clash j x y = (decide (y.r = x.r) && decide (y.a < x.a + sizeM (stripOf j x)) && decide (x.a < y.a + sizeM (stripOf j y))) := fun _ => rfl
  have hph : phased j x = decide (((rollOf j x).ph + x.a) % j.rep = (stripOf j x).a % j.rep) := rfl
  have hz : sizeM (stripOf j x) ≤ 60 ∧ 1 ≤ sizeM (stripOf j x) := by rw [hsz]; omega
  have a0 : (0 : Int) < cuts.length := by omega
  have k6 : ∀ y ∈ pre, ∃ (ky : Nat) (my : Nat), y.s = ky ∧ (ky : Int) < j.ss.length ∧ y.r = my ∧ j.ss[ky]? = some (stripOf j y) ∧ (0 ≤ y.a ∧ y.a ≤ 300) ∧ (0 ≤ (stripOf j y).a ∧ (stripOf j y).a < (stripOf j y).b ∧ (stripOf j y).b ≤ 60) := fun y hy => by
    have h1 := hg y hy
    have h2 := strip_get (j := j) (c := y) ⟨h1.1.1, h1.1.2.1⟩
    refine ⟨y.s.toNat, y.r.toNat, by omega, by omega, by omega, h2, h1.2, (hj.ss _ (List.mem_of_getElem? h2)).2⟩
  have rep1 := hj.rep
  have tm : ∀ a : Int, 0 ≤ a → a.tmod j.rep = a % j.rep := fun a h => Int.tmod_eq_emod_of_nonneg h
  have hcg : ∀ i (y : Cut), pre[i]? = some y → cuts[i]? = some y := fun i y h => by rw [hp, List.getElem?_append_left (List.getElem?_eq_some_iff.1 h).1]; exact h
  have hcl : (pre.length : Int) ≤ cuts.length := by omega
  generalize clash j x = cx at *
  generalize stripOf j x = s at *
  generalize rollOf j x = r at *
  generalize rollOf j (head0 cuts) = r0 at *
  generalize sizeM s = z at *
  generalize oneE j (head0 cuts) pre x = res at *
  generalize fits j x = fx at *
  generalize phased j x = px at *
  obtain ⟨xs, xr, xa⟩ := x
  dsimp only at hk hm
  subst hk hm
  dsimp only at *
  obtain ⟨sx, sa, sb⟩ := s
  obtain ⟨rl, rph, rsh⟩ := r
  obtain ⟨r0l, r0ph, r0sh⟩ := r0
  simp only [encStrip] at k107
  dsimp only at *
  simp (maxSteps := 1000000) (implicitDefEqProofs := false) only [Try.ntmps102, Try.results102, efc102, fc102, encJob, g1, g2, gs, gr, kk, km, n1, n2, n3, n4, regT ho1 hi1, evBT_nil, evBT_cons, effT_true, effT_false, effT2_some, effT2_none, calmT, free, Eff.writes, supp, isBar, Option.toList_some, Option.toList_none, regT ho2 hi2, regT ho3 hi3, regT ho4 hi4, regT ho5 hi5, encStrip, encRoll, encCut, Int.natCast_nonneg, Int.toNat_natCast, List.getElem?_map, List.length_map, ss, sd, evOp, evPlain, evVal, evMem, St.get, sliceOf, arrayOf, fieldsOf, normOf, norm, look, evVar, evFieldAddr, nameOf, St.alloc, St.drop, killOb, part, splice, depth, resultsV, ↓reduceIte, Nat.reduceBEq, Nat.reduceAdd, Nat.reduceSub, Nat.reduceMul, Nat.reduceEqDiff, Nat.reduceLeDiff, Nat.reduceLT, effOf, effMem, effVar, effLit, effMake, effApp, lend, evLit, evNil, freeze, evField, evIndexT, orNil, evSlice, placeOf, evMap, mapOf, keyOk, evFrame, closed, fixed, sameEs, wit, Option.isSome_some, St.with, wantedD, Array.size, te, einl, inls, efr]
  generalize hr : loopAt _ _ _ _ _ _ = r; revert r
  refine loop_list pre (fun qre _ => [(10, .int .i64 qre.length)]) (fun _ _ => []) (fun qre (_ : Unit) => (qre.any fun y => decide (y.s = (k : Int))) = false) () (by omega) (by simp (maxSteps := 1000000) (implicitDefEqProofs := false) only [ss, sd, evOp, evPlain, evVal, evMem, St.get, sliceOf, arrayOf, fieldsOf, normOf, norm, look, evVar, evFieldAddr, nameOf, St.alloc, St.drop, killOb, part, splice, depth, resultsV, ↓reduceIte, Nat.reduceBEq, Nat.reduceAdd, Nat.reduceSub, Nat.reduceMul, Nat.reduceEqDiff, Nat.reduceLeDiff, Nat.reduceLT, effOf, effMem, effVar, effLit, effMake, effApp, lend, evLit, evNil, freeze, evField, evIndexT, orNil, evSlice, placeOf, evMap, mapOf, keyOk, evFrame, closed, fixed, sameEs, wit, Option.isSome_some, St.with, wantedD, Array.size, te, einl, inls, efr]) rfl (fun _ hC => ?_) (fun qre y qost _ hq hC f1 f2 f3 f4 => ?_)
  rotate_left
  · obtain ⟨ky, my, h1, h2, h3, h4, h5, h7⟩ := k6 y (by rw [hq]; simp)
    have f5 := hcg _ _ f3
    have f6 : (qre.length : Int) < cuts.length := by omega
    obtain ⟨ys, yr, ya⟩ := y
    dsimp only at h1 h3
    subst h1 h3
    by_cases b2 : ky = k
    · have q2 : ((ky : Int) == (k : Int)) = true := by rw [b2]; simp
      have e1 := bad8 (by rw [hq]; simp [b2])
      simp (maxSteps := 1000000) (implicitDefEqProofs := false) only [f1, f5, f6, q2, e1, regT ho1 hi1, evBT_nil, evBT_cons, effT_true, effT_false, effT2_some, effT2_none, calmT, free, Eff.writes, supp, isBar, Option.toList_some, Option.toList_none, regT ho2 hi2, regT ho3 hi3, regT ho4 hi4, regT ho5 hi5, encCut, Int.natCast_nonneg, Int.toNat_natCast, List.getElem?_map, List.length_map, Try.ntmps102, Try.results102, efc102, fc102, ss, sd, evOp, evPlain, evVal, evMem, St.get, sliceOf, arrayOf, fieldsOf, normOf, norm, look, evVar, evFieldAddr, nameOf, St.alloc, St.drop, killOb, part, splice, depth, resultsV, ↓reduceIte, Nat.reduceBEq, Nat.reduceAdd, Nat.reduceSub, Nat.reduceMul, Nat.reduceEqDiff, Nat.reduceLeDiff, Nat.reduceLT, effOf, effMem, effVar, effLit, effMake, effApp, lend, evLit, evNil, freeze, evField, evIndexT, orNil, evSlice, placeOf, evMap, mapOf, keyOk, evFrame, closed, fixed, sameEs, wit, Option.isSome_some, St.with, wantedD, Array.size, te, einl, inls, efr]
    · have q2 : ((ky : Int) == (k : Int)) = false := by simp; omega
      simp (maxSteps := 1000000) (implicitDefEqProofs := false) only [f1, f5, f6, f4, q2, regT ho1 hi1, evBT_nil, evBT_cons, effT_true, effT_false, effT2_some, effT2_none, calmT, free, Eff.writes, supp, isBar, Option.toList_some, Option.toList_none, regT ho2 hi2, regT ho3 hi3, regT ho4 hi4, regT ho5 hi5, encCut, Int.natCast_nonneg, Int.toNat_natCast, List.getElem?_map, List.length_map, ss, sd, evOp, evPlain, evVal, evMem, St.get, sliceOf, arrayOf, fieldsOf, normOf, norm, look, evVar, evFieldAddr, nameOf, St.alloc, St.drop, killOb, part, splice, depth, resultsV, ↓reduceIte, Nat.reduceBEq, Nat.reduceAdd, Nat.reduceSub, Nat.reduceMul, Nat.reduceEqDiff, Nat.reduceLeDiff, Nat.reduceLT, effOf, effMem, effVar, effLit, effMake, effApp, lend, evLit, evNil, freeze, evField, evIndexT, orNil, evSlice, placeOf, evMap, mapOf, keyOk, evFrame, closed, fixed, sameEs, wit, Option.isSome_some, St.with, wantedD, Array.size, te, einl, inls, efr]
      refine ⟨(), ?_⟩
      rw [List.any_append, hC]
      simp; omega
  by_cases a1 : xa < 0
  · have e1 := bad11 hC (by rw [fit, decide_eq_false (by omega)]; rfl)
    simp (maxSteps := 1000000) (implicitDefEqProofs := false) only [Int.lt_irrefl, a1, e1, regT ho1 hi1, evBT_nil, evBT_cons, effT_true, effT_false, effT2_some, effT2_none, calmT, free, Eff.writes, supp, isBar, Option.toList_some, Option.toList_none, regT ho2 hi2, regT ho3 hi3, regT ho4 hi4, regT ho5 hi5, Int.natCast_nonneg, Int.toNat_natCast, List.getElem?_map, List.length_map, Try.ntmps102, Try.results102, efc102, fc102, ss, sd, evOp, evPlain, evVal, evMem, St.get, sliceOf, arrayOf, fieldsOf, normOf, norm, look, evVar, evFieldAddr, nameOf, St.alloc, St.drop, killOb, part, splice, depth, resultsV, ↓reduceIte, Nat.reduceBEq, Nat.reduceAdd, Nat.reduceSub, Nat.reduceMul, Nat.reduceEqDiff, Nat.reduceLeDiff, Nat.reduceLT, effOf, effMem, effVar, effLit, effMake, effApp, lend, evLit, evNil, freeze, evField, evIndexT, orNil, evSlice, placeOf, evMap, mapOf, keyOk, evFrame, closed, fixed, sameEs, wit, Option.isSome_some, St.with, wantedD, Array.size, te, einl, inls, efr]
  by_cases a2 : rl - z < xa
  · have e1 := bad11 hC (by rw [fit, decide_eq_false (show ¬ xa ≤ rl - z by omega), Bool.and_false])
    simp (maxSteps := 1000000) (implicitDefEqProofs := false) only [Int.lt_irrefl, a1, a2, e1, k107, w1, regT ho1 hi1, evBT_nil, evBT_cons, effT_true, effT_false, effT2_some, effT2_none, calmT, free, Eff.writes, supp, isBar, Option.toList_some, Option.toList_none, regT ho2 hi2, regT ho3 hi3, regT ho4 hi4, regT ho5 hi5, Int.natCast_nonneg, Int.toNat_natCast, List.getElem?_map, List.length_map, Try.ntmps102, Try.results102, efc102, fc102, ss, sd, evOp, evPlain, evVal, evMem, St.get, sliceOf, arrayOf, fieldsOf, normOf, norm, look, evVar, evFieldAddr, nameOf, St.alloc, St.drop, killOb, part, splice, depth, resultsV, ↓reduceIte, Nat.reduceBEq, Nat.reduceAdd, Nat.reduceSub, Nat.reduceMul, Nat.reduceEqDiff, Nat.reduceLeDiff, Nat.reduceLT, effOf, effMem, effVar, effLit, effMake, effApp, lend, evLit, evNil, freeze, evField, evIndexT, orNil, evSlice, placeOf, evMap, mapOf, keyOk, evFrame, closed, fixed, sameEs, wit, Option.isSome_some, St.with, wantedD, Array.size, te, einl, inls, efr]
  have ft := fit.trans (show (decide (0 ≤ xa) && decide (xa ≤ rl - z)) = true by rw [decide_eq_true (by omega), decide_eq_true (by omega)]; rfl)
  have w4 : IntKind.i64.wrap (rph + xa) = rph + xa := wrap_in (by omega)
  have q0 : ¬ j.rep = 0 := by omega
  have t1 := tm (rph + xa) (by omega)
  have t2 := tm sa (by omega)
  by_cases a3 : (rph + xa) % j.rep = sa % j.rep
  rotate_left
  · have e1 := bad13 hC ft (fun h => a3 (of_decide_eq_true (hph ▸ h.1)))
    have b1 : ((rph + xa) % j.rep != sa % j.rep) = true := by simpa using a3
    simp (maxSteps := 1000000) (implicitDefEqProofs := false) only [Int.lt_irrefl, a1, a2, e1, k107, w1, w4, q0, ne_eq, not_false_eq_true, t1, t2, b1, regT ho1 hi1, evBT_nil, evBT_cons, effT_true, effT_false, effT2_some, effT2_none, calmT, free, Eff.writes, supp, isBar, Option.toList_some, Option.toList_none, regT ho2 hi2, regT ho3 hi3, regT ho4 hi4, regT ho5 hi5, Int.natCast_nonneg, Int.toNat_natCast, List.getElem?_map, List.length_map, Try.ntmps102, Try.results102, efc102, fc102, ss, sd, evOp, evPlain, evVal, evMem, St.get, sliceOf, arrayOf, fieldsOf, normOf, norm, look, evVar, evFieldAddr, nameOf, St.alloc, St.drop, killOb, part, splice, depth, resultsV, ↓reduceIte, Nat.reduceBEq, Nat.reduceAdd, Nat.reduceSub, Nat.reduceMul, Nat.reduceEqDiff, Nat.reduceLeDiff, Nat.reduceLT, effOf, effMem, effVar, effLit, effMake, effApp, lend, evLit, evNil, freeze, evField, evIndexT, orNil, evSlice, placeOf, evMap, mapOf, keyOk, evFrame, closed, fixed, sameEs, wit, Option.isSome_some, St.with, wantedD, Array.size, te, einl, inls, efr]
  have hpx := hph.trans (decide_eq_true a3)
  have b1 : ((rph + xa) % j.rep != sa % j.rep) = false := by simpa using a3
  by_cases a4 : rsh = r0sh
  rotate_left
  · have e1 := bad13 hC ft (fun h => a4 h.2)
    have b2 : (rsh != r0sh) = true := by simpa using a4
    simp (maxSteps := 1000000) (implicitDefEqProofs := false) only [Int.lt_irrefl, a1, a2, a0, q1, gr0, hm0, km0, Int.toNat_zero, Int.le_refl, e1, k107, w1, w4, q0, ne_eq, not_false_eq_true, t1, t2, b1, b2, regT ho1 hi1, evBT_nil, evBT_cons, effT_true, effT_false, effT2_some, effT2_none, calmT, free, Eff.writes, supp, isBar, Option.toList_some, Option.toList_none, regT ho2 hi2, regT ho3 hi3, regT ho4 hi4, regT ho5 hi5, encRoll, encCut, Int.natCast_nonneg, Int.toNat_natCast, List.getElem?_map, List.length_map, Try.ntmps102, Try.results102, efc102, fc102, ss, sd, evOp, evPlain, evVal, evMem, St.get, sliceOf, arrayOf, fieldsOf, normOf, norm, look, evVar, evFieldAddr, nameOf, St.alloc, St.drop, killOb, part, splice, depth, resultsV, ↓reduceIte, Nat.reduceBEq, Nat.reduceAdd, Nat.reduceSub, Nat.reduceMul, Nat.reduceEqDiff, Nat.reduceLeDiff, Nat.reduceLT, effOf, effMem, effVar, effLit, effMake, effApp, lend, evLit, evNil, freeze, evField, evIndexT, orNil, evSlice, placeOf, evMap, mapOf, keyOk, evFrame, closed, fixed, sameEs, wit, Option.isSome_some, St.with, wantedD, Array.size, te, einl, inls, efr]
  have b2 : (rsh != r0sh) = false := by simpa using a4
  simp (maxSteps := 1000000) (implicitDefEqProofs := false) only [Int.lt_irrefl, a1, a2, a0, q1, gr0, hm0, km0, Int.toNat_zero, Int.le_refl, k107, w1, w4, q0, ne_eq, not_false_eq_true, t1, t2, b1, b2, regT ho1 hi1, evBT_nil, evBT_cons, effT_true, effT_false, effT2_some, effT2_none, calmT, free, Eff.writes, supp, isBar, Option.toList_some, Option.toList_none, regT ho2 hi2, regT ho3 hi3, regT ho4 hi4, regT ho5 hi5, encRoll, encCut, Int.natCast_nonneg, Int.toNat_natCast, List.getElem?_map, List.length_map, ss, sd, evOp, evPlain, evVal, evMem, St.get, sliceOf, arrayOf, fieldsOf, normOf, norm, look, evVar, evFieldAddr, nameOf, St.alloc, St.drop, killOb, part, splice, depth, resultsV, ↓reduceIte, Nat.reduceBEq, Nat.reduceAdd, Nat.reduceSub, Nat.reduceMul, Nat.reduceEqDiff, Nat.reduceLeDiff, Nat.reduceLT, effOf, effMem, effVar, effLit, effMake, effApp, lend, evLit, evNil, freeze, evField, evIndexT, orNil, evSlice, placeOf, evMap, mapOf, keyOk, evFrame, closed, fixed, sameEs, wit, Option.isSome_some, St.with, wantedD, Array.size, te, einl, inls, efr]
  generalize hr : loopAt _ _ _ _ _ _ = r; revert r
  refine loop_list pre (fun qre _ => [(11, .int .i64 qre.length)]) (fun _ _ => []) (fun qre (_ : Unit) => qre.any cx = false) () (by omega) (by simp (maxSteps := 1000000) (implicitDefEqProofs := false) only [ss, sd, evOp, evPlain, evVal, evMem, St.get, sliceOf, arrayOf, fieldsOf, normOf, norm, look, evVar, evFieldAddr, nameOf, St.alloc, St.drop, killOb, part, splice, depth, resultsV, ↓reduceIte, Nat.reduceBEq, Nat.reduceAdd, Nat.reduceSub, Nat.reduceMul, Nat.reduceEqDiff, Nat.reduceLeDiff, Nat.reduceLT, effOf, effMem, effVar, effLit, effMake, effApp, lend, evLit, evNil, freeze, evField, evIndexT, orNil, evSlice, placeOf, evMap, mapOf, keyOk, evFrame, closed, fixed, sameEs, wit, Option.isSome_some, St.with, wantedD, Array.size, te, einl, inls, efr]) rfl (fun _ hD => ?_) (fun qre y qost _ hq hD f1 f2 f3 f4 => ?_)
  · have e1 := ok0 hC ft ⟨hpx, a4⟩ hD
    simp (maxSteps := 1000000) (implicitDefEqProofs := false) only [Int.lt_irrefl, e1, Try.ntmps102, Try.results102, efc102, fc102, ss, sd, evOp, evPlain, evVal, evMem, St.get, sliceOf, arrayOf, fieldsOf, normOf, norm, look, evVar, evFieldAddr, nameOf, St.alloc, St.drop, killOb, part, splice, depth, resultsV, ↓reduceIte, Nat.reduceBEq, Nat.reduceAdd, Nat.reduceSub, Nat.reduceMul, Nat.reduceEqDiff, Nat.reduceLeDiff, Nat.reduceLT, effOf, effMem, effVar, effLit, effMake, effApp, lend, evLit, evNil, freeze, evField, evIndexT, orNil, evSlice, placeOf, evMap, mapOf, keyOk, evFrame, closed, fixed, sameEs, wit, Option.isSome_some, St.with, wantedD, Array.size, te, einl, inls, efr]
  · obtain ⟨ky, my, h1, h2, h3, h4, h5, h7⟩ := k6 y (by rw [hq]; simp)
    have f5 := hcg _ _ f3
    have f6 : (qre.length : Int) < cuts.length := by omega
    have ky107 := c107 (stripOf j y) h7
    have cy := cl y
    have hsy : sizeM (stripOf j y) = (stripOf j y).b - (stripOf j y).a := rfl
    have hzy : sizeM (stripOf j y) ≤ 60 ∧ 1 ≤ sizeM (stripOf j y) := by rw [hsy]; omega
    have w2 : IntKind.i64.wrap (xa + z) = xa + z := wrap_in (by omega)
    have w3 : IntKind.i64.wrap (y.a + sizeM (stripOf j y)) = y.a + sizeM (stripOf j y) := wrap_in (by omega)
    have bad' := fun h : cx y = true => bad10 hC ft ⟨hpx, a4⟩ (by rw [hq]; simp [h])
    have nxt : cx y = false → (qre ++ [y]).any cx = false := fun h => by rw [List.any_append, hD]; simp [h]
    generalize stripOf j y = sy at *
    generalize sizeM sy = zy at *
    obtain ⟨ys, yr, ya⟩ := y
    obtain ⟨syx, sya, syb⟩ := sy
    dsimp only at h1 h3
    subst h1 h3
    simp only [encStrip] at ky107
    dsimp only at *
    by_cases b3 : my = m
    rotate_left
    · have q2 : ((my : Int) == (m : Int)) = false := by simp; omega
      have e1 := nxt (by rw [cy, decide_eq_false (by omega)]; rfl)
      simp (maxSteps := 1000000) (implicitDefEqProofs := false) only [f1, f5, f6, f4, q2, regT ho1 hi1, evBT_nil, evBT_cons, effT_true, effT_false, effT2_some, effT2_none, calmT, free, Eff.writes, supp, isBar, Option.toList_some, Option.toList_none, regT ho2 hi2, regT ho3 hi3, regT ho4 hi4, regT ho5 hi5, encCut, Int.natCast_nonneg, Int.toNat_natCast, List.getElem?_map, List.length_map, ss, sd, evOp, evPlain, evVal, evMem, St.get, sliceOf, arrayOf, fieldsOf, normOf, norm, look, evVar, evFieldAddr, nameOf, St.alloc, St.drop, killOb, part, splice, depth, resultsV, ↓reduceIte, Nat.reduceBEq, Nat.reduceAdd, Nat.reduceSub, Nat.reduceMul, Nat.reduceEqDiff, Nat.reduceLeDiff, Nat.reduceLT, effOf, effMem, effVar, effLit, effMake, effApp, lend, evLit, evNil, freeze, evField, evIndexT, orNil, evSlice, placeOf, evMap, mapOf, keyOk, evFrame, closed, fixed, sameEs, wit, Option.isSome_some, St.with, wantedD, Array.size, te, einl, inls, efr]
      exact ⟨(), e1⟩
    have q2 : ((my : Int) == (m : Int)) = true := by rw [b3]; simp
    by_cases b4 : ya < xa + z
    rotate_left
    · have e1 := nxt (by rw [cy, decide_eq_false b4, Bool.and_false]; rfl)
      simp (maxSteps := 1000000) (implicitDefEqProofs := false) only [f1, f5, f6, f4, q2, b4, k107, w2, regT ho1 hi1, evBT_nil, evBT_cons, effT_true, effT_false, effT2_some, effT2_none, calmT, free, Eff.writes, supp, isBar, Option.toList_some, Option.toList_none, regT ho2 hi2, regT ho3 hi3, regT ho4 hi4, regT ho5 hi5, encCut, Int.natCast_nonneg, Int.toNat_natCast, List.getElem?_map, List.length_map, ss, sd, evOp, evPlain, evVal, evMem, St.get, sliceOf, arrayOf, fieldsOf, normOf, norm, look, evVar, evFieldAddr, nameOf, St.alloc, St.drop, killOb, part, splice, depth, resultsV, ↓reduceIte, Nat.reduceBEq, Nat.reduceAdd, Nat.reduceSub, Nat.reduceMul, Nat.reduceEqDiff, Nat.reduceLeDiff, Nat.reduceLT, effOf, effMem, effVar, effLit, effMake, effApp, lend, evLit, evNil, freeze, evField, evIndexT, orNil, evSlice, placeOf, evMap, mapOf, keyOk, evFrame, closed, fixed, sameEs, wit, Option.isSome_some, St.with, wantedD, Array.size, te, einl, inls, efr]
      exact ⟨(), e1⟩
    by_cases b5 : xa < ya + zy
    rotate_left
    · have e1 := nxt (by rw [cy, decide_eq_false b5, Bool.and_false])
      simp (maxSteps := 1000000) (implicitDefEqProofs := false) only [f1, f5, f6, f4, q2, b4, b5, k107, ky107, w2, w3, h2, h4, regT ho1 hi1, evBT_nil, evBT_cons, effT_true, effT_false, effT2_some, effT2_none, calmT, free, Eff.writes, supp, isBar, Option.toList_some, Option.toList_none, regT ho2 hi2, regT ho3 hi3, regT ho4 hi4, regT ho5 hi5, encStrip, encCut, Int.natCast_nonneg, Int.toNat_natCast, List.getElem?_map, List.length_map, ss, sd, evOp, evPlain, evVal, evMem, St.get, sliceOf, arrayOf, fieldsOf, normOf, norm, look, evVar, evFieldAddr, nameOf, St.alloc, St.drop, killOb, part, splice, depth, resultsV, ↓reduceIte, Nat.reduceBEq, Nat.reduceAdd, Nat.reduceSub, Nat.reduceMul, Nat.reduceEqDiff, Nat.reduceLeDiff, Nat.reduceLT, effOf, effMem, effVar, effLit, effMake, effApp, lend, evLit, evNil, freeze, evField, evIndexT, orNil, evSlice, placeOf, evMap, mapOf, keyOk, evFrame, closed, fixed, sameEs, wit, Option.isSome_some, St.with, wantedD, Array.size, te, einl, inls, efr]
      exact ⟨(), e1⟩
    have e1 := bad' (by rw [cy, decide_eq_true (by omega), decide_eq_true b4, decide_eq_true b5]; rfl)
    simp (maxSteps := 1000000) (implicitDefEqProofs := false) only [f1, f5, f6, f4, q2, b4, b5, k107, ky107, w2, w3, h2, h4, e1, regT ho1 hi1, evBT_nil, evBT_cons, effT_true, effT_false, effT2_some, effT2_none, calmT, free, Eff.writes, supp, isBar, Option.toList_some, Option.toList_none, regT ho2 hi2, regT ho3 hi3, regT ho4 hi4, regT ho5 hi5, encStrip, encCut, Int.natCast_nonneg, Int.toNat_natCast, List.getElem?_map, List.length_map, Try.ntmps102, Try.results102, efc102, fc102, ss, sd, evOp, evPlain, evVal, evMem, St.get, sliceOf, arrayOf, fieldsOf, normOf, norm, look, evVar, evFieldAddr, nameOf, St.alloc, St.drop, killOb, part, splice, depth, resultsV, ↓reduceIte, Nat.reduceBEq, Nat.reduceAdd, Nat.reduceSub, Nat.reduceMul, Nat.reduceEqDiff, Nat.reduceLeDiff, Nat.reduceLT, effOf, effMem, effVar, effLit, effMake, effApp, lend, evLit, evNil, freeze, evField, evIndexT, orNil, evSlice, placeOf, evMap, mapOf, keyOk, evFrame, closed, fixed, sameEs, wit, Option.isSome_some, St.with, wantedD, Array.size, te, einl, inls, efr]

set_option maxRecDepth 20000 in
set_option maxHeartbeats 8000000 in
theorem c53 (j : Job) (cuts : List Cut) (hn : cuts.length ≤ 1000000000) : (orcω E X0).call 53 [encJob j, .sl false (cuts.map encCut)] = some (.int .i64 (checkM j cuts)) := by
  refine call_of rfl fn53 rfl ?_
  have k1 := c51 j
  unfold checkM
  by_cases he : jobE j = 0
  rotate_left
  · rw [if_neg he]
    have q1 : (jobE j != 0) = true := by simpa using he
    generalize jobE j = e at *
    unfold encJob at k1 ⊢
    simp (maxSteps := 1000000) (implicitDefEqProofs := false) only [Try.ntmps53, Try.results53, efc53, fc53, k1, q1, ss, sd, evOp, evPlain, evVal, evMem, St.get, sliceOf, arrayOf, fieldsOf, normOf, norm, look, evVar, evFieldAddr, nameOf, St.alloc, St.drop, killOb, part, splice, depth, resultsV, ↓reduceIte, Nat.reduceBEq, Nat.reduceAdd, Nat.reduceSub, Nat.reduceMul, Nat.reduceEqDiff, Nat.reduceLeDiff, Nat.reduceLT, effOf, effMem, effVar, effLit, effMake, effApp, lend, evLit, evNil, freeze, evField, evIndexT, orNil, evSlice, placeOf, evMap, mapOf, keyOk, evFrame, closed, fixed, sameEs, wit, Option.isSome_some, St.with, wantedD, Array.size, te, einl, inls, efr]
  rw [if_pos he]
  have hj := (jobE_zero he).1
  rw [he] at k1
  have h6 := hj.nss
  have eB := fun e h he => checkL_bad (j := j) (cuts := cuts) (e := e) h he
  have eD := fun h => checkL_done (j := j) (cuts := cuts) h
  obtain ⟨F, hF⟩ : ∃ F, firstE j (head0 cuts) [] cuts = F := ⟨_, rfl⟩
  simp only [hF] at eB eD
  have kO := fun pre x post hp hg => c102 j cuts pre post x hj hn hp hg
  unfold encJob at k1 kO ⊢
  generalize checkL j cuts = res at *
  simp (maxSteps := 1000000) (implicitDefEqProofs := false) only [Try.ntmps53, Try.results53, efc53, fc53, k1, bne_self_eq_false, List.length_map, ss, sd, evOp, evPlain, evVal, evMem, St.get, sliceOf, arrayOf, fieldsOf, normOf, norm, look, evVar, evFieldAddr, nameOf, St.alloc, St.drop, killOb, part, splice, depth, resultsV, ↓reduceIte, Nat.reduceBEq, Nat.reduceAdd, Nat.reduceSub, Nat.reduceMul, Nat.reduceEqDiff, Nat.reduceLeDiff, Nat.reduceLT, effOf, effMem, effVar, effLit, effMake, effApp, lend, evLit, evNil, freeze, evField, evIndexT, orNil, evSlice, placeOf, evMap, mapOf, keyOk, evFrame, closed, fixed, sameEs, wit, Option.isSome_some, St.with, wantedD, Array.size, te, einl, inls, efr]
  generalize hr : loopAt _ _ _ _ _ _ = r; revert r
  refine loop_list cuts (fun pre _ => [(6, .int .i64 pre.length)]) (fun _ _ => []) (fun pre (_ : Unit) => Good j pre ∧ firstE j (head0 cuts) pre (cuts.drop pre.length) = F) () (by omega) (by simp (maxSteps := 1000000) (implicitDefEqProofs := false) only [ss, sd, evOp, evPlain, evVal, evMem, St.get, sliceOf, arrayOf, fieldsOf, normOf, norm, look, evVar, evFieldAddr, nameOf, St.alloc, St.drop, killOb, part, splice, depth, resultsV, ↓reduceIte, Nat.reduceBEq, Nat.reduceAdd, Nat.reduceSub, Nat.reduceMul, Nat.reduceEqDiff, Nat.reduceLeDiff, Nat.reduceLT, effOf, effMem, effVar, effLit, effMake, effApp, lend, evLit, evNil, freeze, evField, evIndexT, orNil, evSlice, placeOf, evMap, mapOf, keyOk, evFrame, closed, fixed, sameEs, wit, Option.isSome_some, St.with, wantedD, Array.size, te, einl, inls, efr]) ⟨(fun _ h => by cases h), hF⟩ (fun _ hI => ?_) (fun pre x post _ hp hI g1 g2 g3 g4 => ?_)
  · obtain ⟨hg, hf⟩ := hI
    rw [List.drop_length] at hf
    have e1 := eD hf.symm
    by_cases hlt : cuts.length < j.ss.length
    · rw [if_pos hlt] at e1
      have q1 : (cuts.length : Int) < j.ss.length := by omega
      simp (maxSteps := 1000000) (implicitDefEqProofs := false) only [Int.lt_irrefl, q1, e1, List.length_map, Try.ntmps53, Try.results53, efc53, fc53, ss, sd, evOp, evPlain, evVal, evMem, St.get, sliceOf, arrayOf, fieldsOf, normOf, norm, look, evVar, evFieldAddr, nameOf, St.alloc, St.drop, killOb, part, splice, depth, resultsV, ↓reduceIte, Nat.reduceBEq, Nat.reduceAdd, Nat.reduceSub, Nat.reduceMul, Nat.reduceEqDiff, Nat.reduceLeDiff, Nat.reduceLT, effOf, effMem, effVar, effLit, effMake, effApp, lend, evLit, evNil, freeze, evField, evIndexT, orNil, evSlice, placeOf, evMap, mapOf, keyOk, evFrame, closed, fixed, sameEs, wit, Option.isSome_some, St.with, wantedD, Array.size, te, einl, inls, efr]
    · rw [if_neg hlt] at e1
      have q1 : ¬ (cuts.length : Int) < j.ss.length := by omega
      simp (maxSteps := 1000000) (implicitDefEqProofs := false) only [Int.lt_irrefl, q1, e1, List.length_map, Try.ntmps53, Try.results53, efc53, fc53, ss, sd, evOp, evPlain, evVal, evMem, St.get, sliceOf, arrayOf, fieldsOf, normOf, norm, look, evVar, evFieldAddr, nameOf, St.alloc, St.drop, killOb, part, splice, depth, resultsV, ↓reduceIte, Nat.reduceBEq, Nat.reduceAdd, Nat.reduceSub, Nat.reduceMul, Nat.reduceEqDiff, Nat.reduceLeDiff, Nat.reduceLT, effOf, effMem, effVar, effLit, effMake, effApp, lend, evLit, evNil, freeze, evField, evIndexT, orNil, evSlice, placeOf, evMap, mapOf, keyOk, evFrame, closed, fixed, sameEs, wit, Option.isSome_some, St.with, wantedD, Array.size, te, einl, inls, efr]
  · obtain ⟨hg, hf⟩ := hI
    have hd : cuts.drop pre.length = x :: post := by rw [hp]; simp
    have hd2 : cuts.drop (pre ++ [x]).length = post := by rw [hp]; simp
    rw [hd] at hf
    have k3 := kO pre x post hp hg
    by_cases ho : oneE j (head0 cuts) pre x = 0
    · rw [ho] at k3
      have e2 := good_snoc hj hg (oneE_zero ho)
      have e3 : firstE j (head0 cuts) (pre ++ [x]) (cuts.drop (pre ++ [x]).length) = F := by rw [hd2, ← firstE_next ho]; exact hf
      simp (maxSteps := 1000000) (implicitDefEqProofs := false) only [g1, g2, g4, k3, bne_self_eq_false, List.length_map, ss, sd, evOp, evPlain, evVal, evMem, St.get, sliceOf, arrayOf, fieldsOf, normOf, norm, look, evVar, evFieldAddr, nameOf, St.alloc, St.drop, killOb, part, splice, depth, resultsV, ↓reduceIte, Nat.reduceBEq, Nat.reduceAdd, Nat.reduceSub, Nat.reduceMul, Nat.reduceEqDiff, Nat.reduceLeDiff, Nat.reduceLT, effOf, effMem, effVar, effLit, effMake, effApp, lend, evLit, evNil, freeze, evField, evIndexT, orNil, evSlice, placeOf, evMap, mapOf, keyOk, evFrame, closed, fixed, sameEs, wit, Option.isSome_some, St.with, wantedD, Array.size, te, einl, inls, efr]
      exact ⟨(), e2, e3⟩
    · have e1 := eB _ (hf.symm.trans (firstE_step rfl ho)) ho
      have q1 : (oneE j (head0 cuts) pre x != 0) = true := by simpa using ho
      simp (maxSteps := 1000000) (implicitDefEqProofs := false) only [g1, g2, g4, k3, q1, e1, List.length_map, Try.ntmps53, Try.results53, efc53, fc53, ss, sd, evOp, evPlain, evVal, evMem, St.get, sliceOf, arrayOf, fieldsOf, normOf, norm, look, evVar, evFieldAddr, nameOf, St.alloc, St.drop, killOb, part, splice, depth, resultsV, ↓reduceIte, Nat.reduceBEq, Nat.reduceAdd, Nat.reduceSub, Nat.reduceMul, Nat.reduceEqDiff, Nat.reduceLeDiff, Nat.reduceLT, effOf, effMem, effVar, effLit, effMake, effApp, lend, evLit, evNil, freeze, evField, evIndexT, orNil, evSlice, placeOf, evMap, mapOf, keyOk, evFrame, closed, fixed, sameEs, wit, Option.isSome_some, St.with, wantedD, Array.size, te, einl, inls, efr]
end Go.AM.D
