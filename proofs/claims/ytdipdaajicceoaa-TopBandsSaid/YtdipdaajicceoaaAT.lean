/- A part of the proof: the texts ABandU, ABandV, ABandW, ABandX, ABandY, ABandZ, ABandZZ, one after another. No condition. -/
import Derived.Test.YtdipdaajicceoaaAQ
import Derived.Test.YtdipdaajicceoaaAR
set_option linter.unusedSimpArgs false

section
namespace Go.AM.A
open Go Go.Proofs

theorem mk_eq (r s : Run) : (r.thick == s.thick && (r.shade == s.shade && r.flaw == s.flaw)) = decide (r.mk' = s.mk') := by
  rw [Bool.eq_iff_iff]
  simp [Run.mk']

structure Walk (js ks : List Run) where
  pre : List Run
  post : List Run
  qre : List Run
  qost : List Run
  hj : js = pre ++ post
  hk : ks = qre ++ qost
  hl : pre.length = qre.length
  hc : (cpl (expand js) (expand ks) : Int) = total pre + cpl (expand post) (expand qost)
  hn : Normal post
  hm : Normal qost

theorem lens_sub {B : Int} {pre post : List Run} (h : Lens B (pre ++ post)) : Lens B post := fun r hr => h r (List.mem_append_right _ hr)

/-- What joining gives is normal. -/
theorem joined_normal {rs : List Run} (h : Okay rs) : Normal (joinedL rs) ∧ expand (joinedL rs) = expand rs ∧ Okay (joinedL rs) ∧ (joinedL rs).length ≤ rs.length ∧ total (joinedL rs) = total rs := by
  have h1 := expand_len h
  have h2 := h.2
  have h3 := joined_rle h.1 (by omega)
  obtain ⟨h4, h5, h6⟩ := rle_ok (expand rs) (by omega)
  rw [← h3] at h4 h5 h6
  exact ⟨h6, h5, (joined_okay h).1, joined_le rs, (joined_okay h).2⟩

theorem walk_next {js ks : List Run} (w : Walk js ks) {r s : Run} {post qost : List Run} (h1 : w.post = r :: post) (h2 : w.qost = s :: qost) (hj : Okay js) (hk : Okay ks) :
    (r.mk' ≠ s.mk' → (cpl (expand js) (expand ks) : Int) = total w.pre) ∧ (r.mk' = s.mk' → r.len ≠ s.len → (cpl (expand js) (expand ks) : Int) = total w.pre + min r.len s.len) ∧
    (r.mk' = s.mk' → r.len = s.len → ∃ w' : Walk js ks, w'.pre = w.pre ++ [r] ∧ w'.post = post ∧ w'.qost = qost) := by
  obtain ⟨pre, post0, qre, qost0, a1, a2, a3, a4, a5, a6⟩ := w
  dsimp only at h1 h2 ⊢
  subst h1; subst h2
  have l1 := lens_sub (a1 ▸ okay_lens hj)
  have l2 := lens_sub (a2 ▸ okay_lens hk)
  have hst := cpl_step l1 l2 a5 a6
  refine ⟨fun h => ?_, fun h h' => ?_, fun h h' => ?_⟩
  · rw [if_pos h] at hst; omega
  · rw [if_neg (by simpa using h), if_neg h'] at hst; omega
  · rw [if_neg (by simpa using h), if_pos h'] at hst
    refine ⟨⟨pre ++ [r], post, qre ++ [s], qost, by simpa using a1, by simpa using a2, by simp [a3], ?_, normal_tail a5, normal_tail a6⟩, rfl, rfl, rfl⟩
    rw [total_app, total_cons, total_nil, a4, hst]; omega

theorem okT78 : okCode (Try.f78.body.getD .skip) = true := by decide +kernel

set_option maxHeartbeats 4000000 in
theorem c78 (xs ys : List Run) (hx : Okay xs) (hy : Okay ys) (hn : xs.length ≤ 100000) (hm : ys.length ≤ 100000) :
    (orcω E X0).call 78 [.sl false (xs.map encRun), .sl false (ys.map encRun)] = some (.int .i64 (cpl (expand xs) (expand ys))) := by
  refine call_of rfl fn78 rfl ?_
  have hok := okT78
  simp only [Try.f78, Option.getD_some, okCode, Bool.and_eq_true, Bool.and_true, Bool.true_and] at hok
  try simp only [and_assoc] at hok
  obtain ⟨hk1, hk2, hk3⟩ := hok
  have h1 := c75 false xs (by omega)
  have h2 := c75 false ys (by omega)
  obtain ⟨n1, n2, n3, n4, _⟩ := joined_normal hx
  obtain ⟨m1, m2, m3, m4, _⟩ := joined_normal hy
  rw [← n2, ← m2]
  generalize joinedL xs = js at *
  generalize joinedL ys = ks at *
  have t1 := n3.2
  simp (maxSteps := 1000000) (implicitDefEqProofs := false) only [Try.ntmps78, Try.results78, efc78, fc78, h1, h2, ss, List.replicate, evOp, evPlain, evVal, evMem, St.eval, St.put, St.get, constV, List.set, lenV, sliceOf, arrayOf, fieldsOf, normOf, norm, firstRegion, look, maskFrom, evBin, evIndexS, evLoad, evVar, evStore, evFieldAddr, nameOf, St.alloc, St.drop, killL, kill, killAll, killObs, killOb, upd, cells?, part, retag, retagL, putIn, refFree, refFreeL, isNew, isNewL, Ty.isAgg, splice, idsL, ids, idsLL, reach, depth, St.dropL, resultsV, resultV, ↓reduceIte, Nat.reduceBEq, Nat.reduceAdd, Nat.reduceSub, Nat.reduceMul, Nat.reduceEqDiff, Nat.reduceLeDiff, Nat.reduceLT, effOf, effMem, effStore, effCall, effVar, effLit, effMake, effApp, Eff.ap, lend, evLit, evMake, evNil, freeze, onto, dropO, elemsV, sized, evCmp, eqT, eqG, minV, evUn, evField, evExtract, evIndexA, evIndexV, evSlice, optInt, fillV, placeOf, thawed, del, isNilSlice, plain, plainL, cellsJ, junkOk, St.with, setSlots, setObs, wantedD, seqOf, noRange, setAll, Array.size, te, einl, inls]
  generalize hr : loopAt _ _ _ _ _ _ = r; revert r
  refine loop_inv (ι := Walk js ks) (fun w => [(5, .int .i64 (total w.pre)), (16, .int .i64 w.pre.length)]) (fun _ => []) (fun w => w.post.length) ⟨[], js, [], ks, rfl, rfl, rfl, by simp [total], n1, m1⟩ (by simp (maxSteps := 1000000) (implicitDefEqProofs := false) only [total_nil, ss, List.replicate, evOp, evPlain, evVal, evMem, St.eval, St.put, St.get, constV, List.set, lenV, sliceOf, arrayOf, fieldsOf, normOf, norm, firstRegion, look, maskFrom, evBin, evIndexS, evLoad, evVar, evStore, evFieldAddr, nameOf, St.alloc, St.drop, killL, kill, killAll, killObs, killOb, upd, cells?, part, retag, retagL, putIn, refFree, refFreeL, isNew, isNewL, Ty.isAgg, splice, idsL, ids, idsLL, reach, depth, St.dropL, resultsV, resultV, ↓reduceIte, Nat.reduceBEq, Nat.reduceAdd, Nat.reduceSub, Nat.reduceMul, Nat.reduceEqDiff, Nat.reduceLeDiff, Nat.reduceLT, effOf, effMem, effStore, effCall, effVar, effLit, effMake, effApp, Eff.ap, lend, evLit, evMake, evNil, freeze, onto, dropO, elemsV, sized, evCmp, eqT, eqG, minV, evUn, evField, evExtract, evIndexA, evIndexV, evSlice, optInt, fillV, placeOf, thawed, del, isNilSlice, plain, plainL, cellsJ, junkOk, St.with, setSlots, setObs, wantedD, seqOf, noRange, setAll, Array.size, te, einl, inls]) ?_
  intro w
  have l1 : js.length = w.pre.length + w.post.length := by have := congrArg List.length w.hj; simpa using this
  have l2 : ks.length = w.pre.length + w.qost.length := by have := congrArg List.length w.hk; rw [List.length_append, ← w.hl] at this; exact this
  have t2 := okay_nonneg (okay_app (w.hj ▸ n3)).1
  cases hp : w.post with
  | nil =>
    have hc := w.hc
    rw [hp, expand_nil, cpl_nil_left] at hc
    have a1 : ¬ (w.pre.length : Int) < min (js.length : Int) ks.length := by rw [hp] at l1; simp at l1; omega
    simp (maxSteps := 1000000) (implicitDefEqProofs := false) only [a1, Try.ntmps78, Try.results78, efc78, fc78, ss, List.replicate, evOp, evPlain, evVal, evMem, St.eval, St.put, St.get, constV, List.set, lenV, sliceOf, arrayOf, fieldsOf, normOf, norm, firstRegion, look, maskFrom, evBin, evIndexS, evLoad, evVar, evStore, evFieldAddr, nameOf, St.alloc, St.drop, killL, kill, killAll, killObs, killOb, upd, cells?, part, retag, retagL, putIn, refFree, refFreeL, isNew, isNewL, Ty.isAgg, splice, idsL, ids, idsLL, reach, depth, St.dropL, resultsV, resultV, ↓reduceIte, Nat.reduceBEq, Nat.reduceAdd, Nat.reduceSub, Nat.reduceMul, Nat.reduceEqDiff, Nat.reduceLeDiff, Nat.reduceLT, effOf, effMem, effStore, effCall, effVar, effLit, effMake, effApp, Eff.ap, lend, evLit, evMake, evNil, freeze, onto, dropO, elemsV, sized, evCmp, eqT, eqG, minV, evUn, evField, evExtract, evIndexA, evIndexV, evSlice, optInt, fillV, placeOf, thawed, del, isNilSlice, plain, plainL, cellsJ, junkOk, St.with, setSlots, setObs, wantedD, seqOf, noRange, setAll, Array.size, te, einl, inls]
    simp [hc]
  | cons r post =>
    cases hq : w.qost with
    | nil =>
      have hc := w.hc
      rw [hq, expand_nil, cpl_nil_right] at hc
      have a1 : ¬ (w.pre.length : Int) < min (js.length : Int) ks.length := by rw [hq] at l2; simp at l2; omega
      simp (maxSteps := 1000000) (implicitDefEqProofs := false) only [a1, Try.ntmps78, Try.results78, efc78, fc78, ss, List.replicate, evOp, evPlain, evVal, evMem, St.eval, St.put, St.get, constV, List.set, lenV, sliceOf, arrayOf, fieldsOf, normOf, norm, firstRegion, look, maskFrom, evBin, evIndexS, evLoad, evVar, evStore, evFieldAddr, nameOf, St.alloc, St.drop, killL, kill, killAll, killObs, killOb, upd, cells?, part, retag, retagL, putIn, refFree, refFreeL, isNew, isNewL, Ty.isAgg, splice, idsL, ids, idsLL, reach, depth, St.dropL, resultsV, resultV, ↓reduceIte, Nat.reduceBEq, Nat.reduceAdd, Nat.reduceSub, Nat.reduceMul, Nat.reduceEqDiff, Nat.reduceLeDiff, Nat.reduceLT, effOf, effMem, effStore, effCall, effVar, effLit, effMake, effApp, Eff.ap, lend, evLit, evMake, evNil, freeze, onto, dropO, elemsV, sized, evCmp, eqT, eqG, minV, evUn, evField, evExtract, evIndexA, evIndexV, evSlice, optInt, fillV, placeOf, thawed, del, isNilSlice, plain, plainL, cellsJ, junkOk, St.with, setSlots, setObs, wantedD, seqOf, noRange, setAll, Array.size, te, einl, inls]
      simp [hc]
    | cons s qost =>
      obtain ⟨b1, b2, b3⟩ := walk_next w hp hq n3 m3
      rw [hp] at l1
      rw [hq] at l2
      simp only [List.length_cons] at l1 l2
      have a1 : (w.pre.length : Int) < min (js.length : Int) ks.length := by omega
      have g1 : js[w.pre.length]? = some r := by
        have := w.hj
        rw [hp] at this
        have h5 := congrArg (fun l : List Run => l[w.pre.length]?) this
        simpa using h5
      have g2 : ks[w.pre.length]? = some s := by
        have := w.hk
        rw [hq] at this
        have h5 := congrArg (fun l : List Run => l[w.pre.length]?) this
        rw [w.hl] at h5 ⊢
        simpa using h5
      have r1 := okay_lens n3 r (List.mem_of_getElem? g1)
      have r2 := okay_lens m3 s (List.mem_of_getElem? g2)
      have t3 : total w.pre ≤ 40000000 := by
        have h5 := congrArg total w.hj
        rw [total_app] at h5
        have h6 := okay_nonneg (okay_app (w.hj ▸ n3)).2
        omega
      have w1 : IntKind.i64.wrap (total w.pre + min r.len s.len) = total w.pre + min r.len s.len := wrap_in (by omega)
      have w2 : IntKind.i64.wrap ((w.pre.length : Int) + 1) = (w.pre.length : Int) + 1 := wrap_in (by omega)
      have w3 : IntKind.i64.wrap (total w.pre + r.len) = total w.pre + r.len := wrap_in (by omega)
      have w4 : IntKind.i64.wrap (total w.pre + s.len) = total w.pre + s.len := wrap_in (by omega)
      by_cases hmk : r.mk' = s.mk'
      · have c1 : (r.thick == s.thick && (r.shade == s.shade && r.flaw == s.flaw)) = true := by rw [mk_eq]; simp [hmk]
        by_cases hlen : r.len = s.len
        · obtain ⟨w', e1, e2, e3⟩ := b3 hmk hlen
          have c2 : (r.len != s.len) = false := by simp [hlen]
          simp (maxSteps := 1000000) (implicitDefEqProofs := false) only [w1, w2, w3, w4, a1, g1, g2, Int.natCast_nonneg, Int.toNat_natCast, List.getElem?_map, encRun, c1, c2, evRegion_st hk1, evRegion_st hk2, evRegion_st hk3, ss, List.replicate, evOp, evPlain, evVal, evMem, St.eval, St.put, St.get, constV, List.set, lenV, sliceOf, arrayOf, fieldsOf, normOf, norm, firstRegion, look, maskFrom, evBin, evIndexS, evLoad, evVar, evStore, evFieldAddr, nameOf, St.alloc, St.drop, killL, kill, killAll, killObs, killOb, upd, cells?, part, retag, retagL, putIn, refFree, refFreeL, isNew, isNewL, Ty.isAgg, splice, idsL, ids, idsLL, reach, depth, St.dropL, resultsV, resultV, ↓reduceIte, Nat.reduceBEq, Nat.reduceAdd, Nat.reduceSub, Nat.reduceMul, Nat.reduceEqDiff, Nat.reduceLeDiff, Nat.reduceLT, effOf, effMem, effStore, effCall, effVar, effLit, effMake, effApp, Eff.ap, lend, evLit, evMake, evNil, freeze, onto, dropO, elemsV, sized, evCmp, eqT, eqG, minV, evUn, evField, evExtract, evIndexA, evIndexV, evSlice, optInt, fillV, placeOf, thawed, del, isNilSlice, plain, plainL, cellsJ, junkOk, St.with, setSlots, setObs, wantedD, seqOf, noRange, setAll, Array.size, te, einl, inls]
          refine ⟨w', ?_, by rw [e2]; simp⟩
          rw [e1, total_app, total_cons, total_nil]
          simp [hlen]
        · have hb := b2 hmk hlen
          have c2 : (r.len != s.len) = true := by simp [hlen]
          simp (maxSteps := 1000000) (implicitDefEqProofs := false) only [w1, w2, w3, w4, a1, g1, g2, Int.natCast_nonneg, Int.toNat_natCast, List.getElem?_map, encRun, c1, c2, evRegion_st hk1, evRegion_st hk2, evRegion_st hk3, Try.ntmps78, Try.results78, efc78, fc78, ss, List.replicate, evOp, evPlain, evVal, evMem, St.eval, St.put, St.get, constV, List.set, lenV, sliceOf, arrayOf, fieldsOf, normOf, norm, firstRegion, look, maskFrom, evBin, evIndexS, evLoad, evVar, evStore, evFieldAddr, nameOf, St.alloc, St.drop, killL, kill, killAll, killObs, killOb, upd, cells?, part, retag, retagL, putIn, refFree, refFreeL, isNew, isNewL, Ty.isAgg, splice, idsL, ids, idsLL, reach, depth, St.dropL, resultsV, resultV, ↓reduceIte, Nat.reduceBEq, Nat.reduceAdd, Nat.reduceSub, Nat.reduceMul, Nat.reduceEqDiff, Nat.reduceLeDiff, Nat.reduceLT, effOf, effMem, effStore, effCall, effVar, effLit, effMake, effApp, Eff.ap, lend, evLit, evMake, evNil, freeze, onto, dropO, elemsV, sized, evCmp, eqT, eqG, minV, evUn, evField, evExtract, evIndexA, evIndexV, evSlice, optInt, fillV, placeOf, thawed, del, isNilSlice, plain, plainL, cellsJ, junkOk, St.with, setSlots, setObs, wantedD, seqOf, noRange, setAll, Array.size, te, einl, inls]
          simp [hb]
      · have hb := b1 hmk
        have c1 : (r.thick == s.thick && (r.shade == s.shade && r.flaw == s.flaw)) = false := by rw [mk_eq]; simp [hmk]
        simp (maxSteps := 1000000) (implicitDefEqProofs := false) only [w1, w2, w3, w4, a1, g1, g2, Int.natCast_nonneg, Int.toNat_natCast, List.getElem?_map, encRun, c1, evRegion_st hk1, evRegion_st hk2, evRegion_st hk3, Try.ntmps78, Try.results78, efc78, fc78, ss, List.replicate, evOp, evPlain, evVal, evMem, St.eval, St.put, St.get, constV, List.set, lenV, sliceOf, arrayOf, fieldsOf, normOf, norm, firstRegion, look, maskFrom, evBin, evIndexS, evLoad, evVar, evStore, evFieldAddr, nameOf, St.alloc, St.drop, killL, kill, killAll, killObs, killOb, upd, cells?, part, retag, retagL, putIn, refFree, refFreeL, isNew, isNewL, Ty.isAgg, splice, idsL, ids, idsLL, reach, depth, St.dropL, resultsV, resultV, ↓reduceIte, Nat.reduceBEq, Nat.reduceAdd, Nat.reduceSub, Nat.reduceMul, Nat.reduceEqDiff, Nat.reduceLeDiff, Nat.reduceLT, effOf, effMem, effStore, effCall, effVar, effLit, effMake, effApp, Eff.ap, lend, evLit, evMake, evNil, freeze, onto, dropO, elemsV, sized, evCmp, eqT, eqG, minV, evUn, evField, evExtract, evIndexA, evIndexV, evSlice, optInt, fillV, placeOf, thawed, del, isNilSlice, plain, plainL, cellsJ, junkOk, St.with, setSlots, setObs, wantedD, seqOf, noRange, setAll, Array.size, te, einl, inls]
        simp [hb]

theorem okT86 : okCode (Try.f86.body.getD .skip) = true := by decide +kernel

set_option maxHeartbeats 4000000 in
theorem c86 (xs ys : List Run) (hx : Okay xs) (hy : Okay ys) (hn : xs.length ≤ 100000) (hm : ys.length ≤ 100000) :
    (orcω E X0).call 86 [.sl false (xs.map encRun), .sl false (ys.map encRun)] = some (.int .i64 (cpl (expand xs) (expand ys))) := by
  refine call_of rfl fn86 rfl ?_
  have hok := okT86
  simp only [Try.f86, Option.getD_some, okCode, Bool.and_eq_true, Bool.and_true, Bool.true_and] at hok
  try simp only [and_assoc] at hok
  obtain ⟨hk1, hk2, hk3⟩ := hok
  have h1 := c76 false xs (by omega)
  have h2 := c76 false ys (by omega)
  obtain ⟨n1, n2, n3, n4, _⟩ := joined_normal hx
  obtain ⟨m1, m2, m3, m4, _⟩ := joined_normal hy
  rw [joinR_eq (fun r hr => by have := hx.1 r hr; omega)] at h1
  rw [joinR_eq (fun r hr => by have := hy.1 r hr; omega)] at h2
  rw [← n2, ← m2]
  generalize joinedL xs = js at *
  generalize joinedL ys = ks at *
  have t1 := n3.2
  simp (maxSteps := 1000000) (implicitDefEqProofs := false) only [Try.ntmps86, Try.results86, efc86, fc86, h1, h2, ss, List.replicate, evOp, evPlain, evVal, evMem, St.eval, St.put, St.get, constV, List.set, lenV, sliceOf, arrayOf, fieldsOf, normOf, norm, firstRegion, look, maskFrom, evBin, evIndexS, evLoad, evVar, evStore, evFieldAddr, nameOf, St.alloc, St.drop, killL, kill, killAll, killObs, killOb, upd, cells?, part, retag, retagL, putIn, refFree, refFreeL, isNew, isNewL, Ty.isAgg, splice, idsL, ids, idsLL, reach, depth, St.dropL, resultsV, resultV, ↓reduceIte, Nat.reduceBEq, Nat.reduceAdd, Nat.reduceSub, Nat.reduceMul, Nat.reduceEqDiff, Nat.reduceLeDiff, Nat.reduceLT, effOf, effMem, effStore, effCall, effVar, effLit, effMake, effApp, Eff.ap, lend, evLit, evMake, evNil, freeze, onto, dropO, elemsV, sized, evCmp, eqT, eqG, minV, evUn, evField, evExtract, evIndexA, evIndexV, evSlice, optInt, fillV, placeOf, thawed, del, isNilSlice, plain, plainL, cellsJ, junkOk, St.with, setSlots, setObs, wantedD, seqOf, noRange, setAll, Array.size, te, einl, inls]
  generalize hr : loopAt _ _ _ _ _ _ = r; revert r
  refine loop_inv (ι := Walk js ks) (fun w => [(7, .int .i64 (total w.pre)), (8, .int .i64 w.pre.length)]) (fun _ => []) (fun w => w.post.length) ⟨[], js, [], ks, rfl, rfl, rfl, by simp [total], n1, m1⟩ (by simp (maxSteps := 1000000) (implicitDefEqProofs := false) only [total_nil, ss, List.replicate, evOp, evPlain, evVal, evMem, St.eval, St.put, St.get, constV, List.set, lenV, sliceOf, arrayOf, fieldsOf, normOf, norm, firstRegion, look, maskFrom, evBin, evIndexS, evLoad, evVar, evStore, evFieldAddr, nameOf, St.alloc, St.drop, killL, kill, killAll, killObs, killOb, upd, cells?, part, retag, retagL, putIn, refFree, refFreeL, isNew, isNewL, Ty.isAgg, splice, idsL, ids, idsLL, reach, depth, St.dropL, resultsV, resultV, ↓reduceIte, Nat.reduceBEq, Nat.reduceAdd, Nat.reduceSub, Nat.reduceMul, Nat.reduceEqDiff, Nat.reduceLeDiff, Nat.reduceLT, effOf, effMem, effStore, effCall, effVar, effLit, effMake, effApp, Eff.ap, lend, evLit, evMake, evNil, freeze, onto, dropO, elemsV, sized, evCmp, eqT, eqG, minV, evUn, evField, evExtract, evIndexA, evIndexV, evSlice, optInt, fillV, placeOf, thawed, del, isNilSlice, plain, plainL, cellsJ, junkOk, St.with, setSlots, setObs, wantedD, seqOf, noRange, setAll, Array.size, te, einl, inls]) ?_
  intro w
  have l1 : js.length = w.pre.length + w.post.length := by have := congrArg List.length w.hj; simpa using this
  have l2 : ks.length = w.pre.length + w.qost.length := by have := congrArg List.length w.hk; rw [List.length_append, ← w.hl] at this; exact this
  have t2 := okay_nonneg (okay_app (w.hj ▸ n3)).1
  cases hp : w.post with
  | nil =>
    have hc := w.hc
    rw [hp, expand_nil, cpl_nil_left] at hc
    have a1 : ¬ (w.pre.length : Int) < js.length := by rw [hp] at l1; simp at l1; omega
    simp (maxSteps := 1000000) (implicitDefEqProofs := false) only [a1, evRegion_st hk1, evRegion_st hk2, evRegion_st hk3, Try.ntmps86, Try.results86, efc86, fc86, ss, List.replicate, evOp, evPlain, evVal, evMem, St.eval, St.put, St.get, constV, List.set, lenV, sliceOf, arrayOf, fieldsOf, normOf, norm, firstRegion, look, maskFrom, evBin, evIndexS, evLoad, evVar, evStore, evFieldAddr, nameOf, St.alloc, St.drop, killL, kill, killAll, killObs, killOb, upd, cells?, part, retag, retagL, putIn, refFree, refFreeL, isNew, isNewL, Ty.isAgg, splice, idsL, ids, idsLL, reach, depth, St.dropL, resultsV, resultV, ↓reduceIte, Nat.reduceBEq, Nat.reduceAdd, Nat.reduceSub, Nat.reduceMul, Nat.reduceEqDiff, Nat.reduceLeDiff, Nat.reduceLT, effOf, effMem, effStore, effCall, effVar, effLit, effMake, effApp, Eff.ap, lend, evLit, evMake, evNil, freeze, onto, dropO, elemsV, sized, evCmp, eqT, eqG, minV, evUn, evField, evExtract, evIndexA, evIndexV, evSlice, optInt, fillV, placeOf, thawed, del, isNilSlice, plain, plainL, cellsJ, junkOk, St.with, setSlots, setObs, wantedD, seqOf, noRange, setAll, Array.size, te, einl, inls]
    simp [hc]
  | cons r post =>
    cases hq : w.qost with
    | nil =>
      have hc := w.hc
      rw [hq, expand_nil, cpl_nil_right] at hc
      have a1 : ¬ (w.pre.length : Int) < ks.length := by rw [hq] at l2; simp at l2; omega
      have a0 : (w.pre.length : Int) < js.length := by rw [hp] at l1; simp at l1; omega
      simp (maxSteps := 1000000) (implicitDefEqProofs := false) only [a0, a1, evRegion_st hk1, evRegion_st hk2, evRegion_st hk3, Try.ntmps86, Try.results86, efc86, fc86, ss, List.replicate, evOp, evPlain, evVal, evMem, St.eval, St.put, St.get, constV, List.set, lenV, sliceOf, arrayOf, fieldsOf, normOf, norm, firstRegion, look, maskFrom, evBin, evIndexS, evLoad, evVar, evStore, evFieldAddr, nameOf, St.alloc, St.drop, killL, kill, killAll, killObs, killOb, upd, cells?, part, retag, retagL, putIn, refFree, refFreeL, isNew, isNewL, Ty.isAgg, splice, idsL, ids, idsLL, reach, depth, St.dropL, resultsV, resultV, ↓reduceIte, Nat.reduceBEq, Nat.reduceAdd, Nat.reduceSub, Nat.reduceMul, Nat.reduceEqDiff, Nat.reduceLeDiff, Nat.reduceLT, effOf, effMem, effStore, effCall, effVar, effLit, effMake, effApp, Eff.ap, lend, evLit, evMake, evNil, freeze, onto, dropO, elemsV, sized, evCmp, eqT, eqG, minV, evUn, evField, evExtract, evIndexA, evIndexV, evSlice, optInt, fillV, placeOf, thawed, del, isNilSlice, plain, plainL, cellsJ, junkOk, St.with, setSlots, setObs, wantedD, seqOf, noRange, setAll, Array.size, te, einl, inls]
      simp [hc]
    | cons s qost =>
      obtain ⟨b1, b2, b3⟩ := walk_next w hp hq n3 m3
      rw [hp] at l1
      rw [hq] at l2
      simp only [List.length_cons] at l1 l2
      have a1 : (w.pre.length : Int) < js.length := by omega
      have a2 : (w.pre.length : Int) < ks.length := by omega
      have g1 : js[w.pre.length]? = some r := by
        have := w.hj
        rw [hp] at this
        have h5 := congrArg (fun l : List Run => l[w.pre.length]?) this
        simpa using h5
      have g2 : ks[w.pre.length]? = some s := by
        have := w.hk
        rw [hq] at this
        have h5 := congrArg (fun l : List Run => l[w.pre.length]?) this
        rw [w.hl] at h5 ⊢
        simpa using h5
      have r1 := okay_lens n3 r (List.mem_of_getElem? g1)
      have r2 := okay_lens m3 s (List.mem_of_getElem? g2)
      have t3 : total w.pre ≤ 40000000 := by
        have h5 := congrArg total w.hj
        rw [total_app] at h5
        have h6 := okay_nonneg (okay_app (w.hj ▸ n3)).2
        omega
      have w1 : IntKind.i64.wrap (total w.pre + min r.len s.len) = total w.pre + min r.len s.len := wrap_in (by omega)
      have w2 : IntKind.i64.wrap ((w.pre.length : Int) + 1) = (w.pre.length : Int) + 1 := wrap_in (by omega)
      have w3 : IntKind.i64.wrap (total w.pre + r.len) = total w.pre + r.len := wrap_in (by omega)
      have w4 : IntKind.i64.wrap (total w.pre + s.len) = total w.pre + s.len := wrap_in (by omega)
      by_cases hmk : r.mk' = s.mk'
      · have c1 : (r.thick == s.thick && (r.shade == s.shade && r.flaw == s.flaw)) = true := by rw [mk_eq]; simp [hmk]
        by_cases hlen : r.len = s.len
        · obtain ⟨w', e1, e2, e3⟩ := b3 hmk hlen
          have c2 : (r.len != s.len) = false := by simp [hlen]
          simp (maxSteps := 1000000) (implicitDefEqProofs := false) only [w1, w2, w3, w4, a1, a2, g1, g2, Int.natCast_nonneg, Int.toNat_natCast, List.getElem?_map, encRun, c1, c2, evRegion_st hk1, evRegion_st hk2, evRegion_st hk3, ss, List.replicate, evOp, evPlain, evVal, evMem, St.eval, St.put, St.get, constV, List.set, lenV, sliceOf, arrayOf, fieldsOf, normOf, norm, firstRegion, look, maskFrom, evBin, evIndexS, evLoad, evVar, evStore, evFieldAddr, nameOf, St.alloc, St.drop, killL, kill, killAll, killObs, killOb, upd, cells?, part, retag, retagL, putIn, refFree, refFreeL, isNew, isNewL, Ty.isAgg, splice, idsL, ids, idsLL, reach, depth, St.dropL, resultsV, resultV, ↓reduceIte, Nat.reduceBEq, Nat.reduceAdd, Nat.reduceSub, Nat.reduceMul, Nat.reduceEqDiff, Nat.reduceLeDiff, Nat.reduceLT, effOf, effMem, effStore, effCall, effVar, effLit, effMake, effApp, Eff.ap, lend, evLit, evMake, evNil, freeze, onto, dropO, elemsV, sized, evCmp, eqT, eqG, minV, evUn, evField, evExtract, evIndexA, evIndexV, evSlice, optInt, fillV, placeOf, thawed, del, isNilSlice, plain, plainL, cellsJ, junkOk, St.with, setSlots, setObs, wantedD, seqOf, noRange, setAll, Array.size, te, einl, inls]
          refine ⟨w', ?_, by rw [e2]; simp⟩
          rw [e1, total_app, total_cons, total_nil]
          simp [hlen]
        · have hb := b2 hmk hlen
          have c2 : (r.len != s.len) = true := by simp [hlen]
          by_cases hlt : r.len < s.len
          · simp (maxSteps := 1000000) (implicitDefEqProofs := false) only [w1, w2, w3, w4, a1, a2, g1, g2, Int.natCast_nonneg, Int.toNat_natCast, List.getElem?_map, encRun, c1, c2, hlt, evRegion_st hk1, evRegion_st hk2, evRegion_st hk3, Try.ntmps86, Try.results86, efc86, fc86, ss, List.replicate, evOp, evPlain, evVal, evMem, St.eval, St.put, St.get, constV, List.set, lenV, sliceOf, arrayOf, fieldsOf, normOf, norm, firstRegion, look, maskFrom, evBin, evIndexS, evLoad, evVar, evStore, evFieldAddr, nameOf, St.alloc, St.drop, killL, kill, killAll, killObs, killOb, upd, cells?, part, retag, retagL, putIn, refFree, refFreeL, isNew, isNewL, Ty.isAgg, splice, idsL, ids, idsLL, reach, depth, St.dropL, resultsV, resultV, ↓reduceIte, Nat.reduceBEq, Nat.reduceAdd, Nat.reduceSub, Nat.reduceMul, Nat.reduceEqDiff, Nat.reduceLeDiff, Nat.reduceLT, effOf, effMem, effStore, effCall, effVar, effLit, effMake, effApp, Eff.ap, lend, evLit, evMake, evNil, freeze, onto, dropO, elemsV, sized, evCmp, eqT, eqG, minV, evUn, evField, evExtract, evIndexA, evIndexV, evSlice, optInt, fillV, placeOf, thawed, del, isNilSlice, plain, plainL, cellsJ, junkOk, St.with, setSlots, setObs, wantedD, seqOf, noRange, setAll, Array.size, te, einl, inls]
            rw [hb, show min r.len s.len = r.len by omega]
          · simp (maxSteps := 1000000) (implicitDefEqProofs := false) only [w1, w2, w3, w4, a1, a2, g1, g2, Int.natCast_nonneg, Int.toNat_natCast, List.getElem?_map, encRun, c1, c2, hlt, evRegion_st hk1, evRegion_st hk2, evRegion_st hk3, Try.ntmps86, Try.results86, efc86, fc86, ss, List.replicate, evOp, evPlain, evVal, evMem, St.eval, St.put, St.get, constV, List.set, lenV, sliceOf, arrayOf, fieldsOf, normOf, norm, firstRegion, look, maskFrom, evBin, evIndexS, evLoad, evVar, evStore, evFieldAddr, nameOf, St.alloc, St.drop, killL, kill, killAll, killObs, killOb, upd, cells?, part, retag, retagL, putIn, refFree, refFreeL, isNew, isNewL, Ty.isAgg, splice, idsL, ids, idsLL, reach, depth, St.dropL, resultsV, resultV, ↓reduceIte, Nat.reduceBEq, Nat.reduceAdd, Nat.reduceSub, Nat.reduceMul, Nat.reduceEqDiff, Nat.reduceLeDiff, Nat.reduceLT, effOf, effMem, effStore, effCall, effVar, effLit, effMake, effApp, Eff.ap, lend, evLit, evMake, evNil, freeze, onto, dropO, elemsV, sized, evCmp, eqT, eqG, minV, evUn, evField, evExtract, evIndexA, evIndexV, evSlice, optInt, fillV, placeOf, thawed, del, isNilSlice, plain, plainL, cellsJ, junkOk, St.with, setSlots, setObs, wantedD, seqOf, noRange, setAll, Array.size, te, einl, inls]
            rw [hb, show min r.len s.len = s.len by omega]
      · have hb := b1 hmk
        have c1 : (r.thick == s.thick && (r.shade == s.shade && r.flaw == s.flaw)) = false := by rw [mk_eq]; simp [hmk]
        simp (maxSteps := 1000000) (implicitDefEqProofs := false) only [w1, w2, w3, w4, a1, a2, g1, g2, Int.natCast_nonneg, Int.toNat_natCast, List.getElem?_map, encRun, c1, evRegion_st hk1, evRegion_st hk2, evRegion_st hk3, Try.ntmps86, Try.results86, efc86, fc86, ss, List.replicate, evOp, evPlain, evVal, evMem, St.eval, St.put, St.get, constV, List.set, lenV, sliceOf, arrayOf, fieldsOf, normOf, norm, firstRegion, look, maskFrom, evBin, evIndexS, evLoad, evVar, evStore, evFieldAddr, nameOf, St.alloc, St.drop, killL, kill, killAll, killObs, killOb, upd, cells?, part, retag, retagL, putIn, refFree, refFreeL, isNew, isNewL, Ty.isAgg, splice, idsL, ids, idsLL, reach, depth, St.dropL, resultsV, resultV, ↓reduceIte, Nat.reduceBEq, Nat.reduceAdd, Nat.reduceSub, Nat.reduceMul, Nat.reduceEqDiff, Nat.reduceLeDiff, Nat.reduceLT, effOf, effMem, effStore, effCall, effVar, effLit, effMake, effApp, Eff.ap, lend, evLit, evMake, evNil, freeze, onto, dropO, elemsV, sized, evCmp, eqT, eqG, minV, evUn, evField, evExtract, evIndexA, evIndexV, evSlice, optInt, fillV, placeOf, thawed, del, isNilSlice, plain, plainL, cellsJ, junkOk, St.with, setSlots, setObs, wantedD, seqOf, noRange, setAll, Array.size, te, einl, inls]
        simp [hb]

def agreeM (xs ys : List Run) : Int × Int := if both xs ys = 0 then ((cpl (expand xs) (expand ys) : Nat), 0) else (0, both xs ys)

theorem c41 (xs ys : List Run) (hn : xs.length ≤ 100000) (hm : ys.length ≤ 100000) : (orcω E X0).call 41 [.sl false (xs.map encRun), .sl false (ys.map encRun)] = some (encLen (agreeM xs ys)) := by
  refine call_of rfl fn41 rfl ?_
  have h1 := c65 false false xs ys (by omega) (by omega)
  by_cases hv : both xs ys = 0
  · obtain ⟨v1, v2⟩ := both_zero hv
    have h2 := c78 xs ys (valid_okay v1).1 (valid_okay v2).1 hn hm
    rw [hv] at h1
    simp (maxSteps := 1000000) (implicitDefEqProofs := false) only [Try.ntmps41, Try.results41, efc41, h1, h2, bne_self_eq_false, ss, List.replicate, evOp, evPlain, evVal, evMem, St.eval, St.put, St.get, constV, List.set, lenV, sliceOf, arrayOf, fieldsOf, normOf, norm, firstRegion, look, maskFrom, evBin, evIndexS, evLoad, evVar, evStore, evFieldAddr, nameOf, St.alloc, St.drop, killL, kill, killAll, killObs, killOb, upd, cells?, part, retag, retagL, putIn, refFree, refFreeL, isNew, isNewL, Ty.isAgg, splice, idsL, ids, idsLL, reach, depth, St.dropL, resultsV, resultV, ↓reduceIte, Nat.reduceBEq, Nat.reduceAdd, Nat.reduceSub, Nat.reduceMul, Nat.reduceEqDiff, Nat.reduceLeDiff, Nat.reduceLT, effOf, effMem, effStore, effCall, effVar, effLit, effMake, effApp, Eff.ap, lend, evLit, evMake, evNil, freeze, onto, dropO, elemsV, sized, evCmp, eqT, eqG, minV, evUn, evField, evExtract, evIndexA, evIndexV, evSlice, optInt, fillV, placeOf, thawed, del, isNilSlice, plain, plainL, cellsJ, junkOk, St.with, setSlots, setObs, wantedD, seqOf, noRange, setAll, Array.size, te, einl, inls]
    simp [encLen, agreeM, hv]
  · have hv' : (both xs ys != 0) = true := by simp [hv]
    simp (maxSteps := 1000000) (implicitDefEqProofs := false) only [Try.ntmps41, Try.results41, efc41, h1, hv', ss, List.replicate, evOp, evPlain, evVal, evMem, St.eval, St.put, St.get, constV, List.set, lenV, sliceOf, arrayOf, fieldsOf, normOf, norm, firstRegion, look, maskFrom, evBin, evIndexS, evLoad, evVar, evStore, evFieldAddr, nameOf, St.alloc, St.drop, killL, kill, killAll, killObs, killOb, upd, cells?, part, retag, retagL, putIn, refFree, refFreeL, isNew, isNewL, Ty.isAgg, splice, idsL, ids, idsLL, reach, depth, St.dropL, resultsV, resultV, ↓reduceIte, Nat.reduceBEq, Nat.reduceAdd, Nat.reduceSub, Nat.reduceMul, Nat.reduceEqDiff, Nat.reduceLeDiff, Nat.reduceLT, effOf, effMem, effStore, effCall, effVar, effLit, effMake, effApp, Eff.ap, lend, evLit, evMake, evNil, freeze, onto, dropO, elemsV, sized, evCmp, eqT, eqG, minV, evUn, evField, evExtract, evIndexA, evIndexV, evSlice, optInt, fillV, placeOf, thawed, del, isNilSlice, plain, plainL, cellsJ, junkOk, St.with, setSlots, setObs, wantedD, seqOf, noRange, setAll, Array.size, te, einl, inls]
    simp [encLen, agreeM, hv]

theorem c56 (xs ys : List Run) (hn : xs.length ≤ 100000) (hm : ys.length ≤ 100000) : (orcω E X0).call 56 [.sl false (xs.map encRun), .sl false (ys.map encRun)] = some (encLen (agreeM xs ys)) := by
  refine call_of rfl fn56 rfl ?_
  have h1 := c67 false false xs ys (by omega) (by omega)
  by_cases hv : both xs ys = 0
  · obtain ⟨v1, v2⟩ := both_zero hv
    have h2 := c86 xs ys (valid_okay v1).1 (valid_okay v2).1 hn hm
    rw [hv] at h1
    simp (maxSteps := 1000000) (implicitDefEqProofs := false) only [Try.ntmps56, Try.results56, efc56, h1, h2, bne_self_eq_false, ss, List.replicate, evOp, evPlain, evVal, evMem, St.eval, St.put, St.get, constV, List.set, lenV, sliceOf, arrayOf, fieldsOf, normOf, norm, firstRegion, look, maskFrom, evBin, evIndexS, evLoad, evVar, evStore, evFieldAddr, nameOf, St.alloc, St.drop, killL, kill, killAll, killObs, killOb, upd, cells?, part, retag, retagL, putIn, refFree, refFreeL, isNew, isNewL, Ty.isAgg, splice, idsL, ids, idsLL, reach, depth, St.dropL, resultsV, resultV, ↓reduceIte, Nat.reduceBEq, Nat.reduceAdd, Nat.reduceSub, Nat.reduceMul, Nat.reduceEqDiff, Nat.reduceLeDiff, Nat.reduceLT, effOf, effMem, effStore, effCall, effVar, effLit, effMake, effApp, Eff.ap, lend, evLit, evMake, evNil, freeze, onto, dropO, elemsV, sized, evCmp, eqT, eqG, minV, evUn, evField, evExtract, evIndexA, evIndexV, evSlice, optInt, fillV, placeOf, thawed, del, isNilSlice, plain, plainL, cellsJ, junkOk, St.with, setSlots, setObs, wantedD, seqOf, noRange, setAll, Array.size, te, einl, inls]
    simp [encLen, agreeM, hv]
  · have hv' : (both xs ys != 0) = true := by simp [hv]
    simp (maxSteps := 1000000) (implicitDefEqProofs := false) only [Try.ntmps56, Try.results56, efc56, h1, hv', ss, List.replicate, evOp, evPlain, evVal, evMem, St.eval, St.put, St.get, constV, List.set, lenV, sliceOf, arrayOf, fieldsOf, normOf, norm, firstRegion, look, maskFrom, evBin, evIndexS, evLoad, evVar, evStore, evFieldAddr, nameOf, St.alloc, St.drop, killL, kill, killAll, killObs, killOb, upd, cells?, part, retag, retagL, putIn, refFree, refFreeL, isNew, isNewL, Ty.isAgg, splice, idsL, ids, idsLL, reach, depth, St.dropL, resultsV, resultV, ↓reduceIte, Nat.reduceBEq, Nat.reduceAdd, Nat.reduceSub, Nat.reduceMul, Nat.reduceEqDiff, Nat.reduceLeDiff, Nat.reduceLT, effOf, effMem, effStore, effCall, effVar, effLit, effMake, effApp, Eff.ap, lend, evLit, evMake, evNil, freeze, onto, dropO, elemsV, sized, evCmp, eqT, eqG, minV, evUn, evField, evExtract, evIndexA, evIndexV, evSlice, optInt, fillV, placeOf, thawed, del, isNilSlice, plain, plainL, cellsJ, junkOk, St.with, setSlots, setObs, wantedD, seqOf, noRange, setAll, Array.size, te, einl, inls]
    simp [encLen, agreeM, hv]

def sameM (xs ys : List Run) : Bool × Int := if both xs ys = 0 then (decide (expand xs = expand ys), 0) else (false, both xs ys)
def encSame (x : Bool × Int) : V := .tup [.bool x.1, .int .i64 x.2]

theorem same_iff_cpl {x y : List Mk} : decide (x = y) = (decide (x.length = y.length) && decide (cpl x y = x.length)) := by
  rw [Bool.eq_iff_iff]
  simp only [decide_eq_true_eq, Bool.and_eq_true]
  constructor
  · rintro rfl; exact ⟨rfl, cpl_self x⟩
  · rintro ⟨h1, h2⟩; exact cpl_all h2 (by omega)

theorem c39 (xs ys : List Run) (hn : xs.length ≤ 100000) (hm : ys.length ≤ 100000) : (orcω E X0).call 39 [.sl false (xs.map encRun), .sl false (ys.map encRun)] = some (encSame (sameM xs ys)) := by
  refine call_of rfl fn39 rfl ?_
  have h1 := c65 false false xs ys (by omega) (by omega)
  by_cases hv : both xs ys = 0
  · obtain ⟨v1, v2⟩ := both_zero hv
    have o1 := (valid_okay v1).1
    have o2 := (valid_okay v2).1
    have h2 := c78 xs ys o1 o2 hn hm
    have h3 := c61 false xs (by omega)
    have h4 := c61 false ys (by omega)
    rw [ln_total o1, ← expand_len o1] at h3
    rw [ln_total o2, ← expand_len o2] at h4
    rw [hv] at h1
    simp only [sameM, if_pos hv, same_iff_cpl]
    cases a1 : ((expand xs).length : Int) == (expand ys).length with
    | false =>
      simp (maxSteps := 1000000) (implicitDefEqProofs := false) only [Try.ntmps39, Try.results39, efc39, h1, h3, h4, a1, bne_self_eq_false, ss, List.replicate, evOp, evPlain, evVal, evMem, St.eval, St.put, St.get, constV, List.set, lenV, sliceOf, arrayOf, fieldsOf, normOf, norm, firstRegion, look, maskFrom, evBin, evIndexS, evLoad, evVar, evStore, evFieldAddr, nameOf, St.alloc, St.drop, killL, kill, killAll, killObs, killOb, upd, cells?, part, retag, retagL, putIn, refFree, refFreeL, isNew, isNewL, Ty.isAgg, splice, idsL, ids, idsLL, reach, depth, St.dropL, resultsV, resultV, ↓reduceIte, Nat.reduceBEq, Nat.reduceAdd, Nat.reduceSub, Nat.reduceMul, Nat.reduceEqDiff, Nat.reduceLeDiff, Nat.reduceLT, effOf, effMem, effStore, effCall, effVar, effLit, effMake, effApp, Eff.ap, lend, evLit, evMake, evNil, freeze, onto, dropO, elemsV, sized, evCmp, eqT, eqG, minV, evUn, evField, evExtract, evIndexA, evIndexV, evSlice, optInt, fillV, placeOf, thawed, del, isNilSlice, plain, plainL, cellsJ, junkOk, St.with, setSlots, setObs, wantedD, seqOf, noRange, setAll, Array.size, te, einl, inls]
      have : ¬ (expand xs).length = (expand ys).length := by simp at a1; omega
      simp [encSame, this]
    | true =>
      simp (maxSteps := 1000000) (implicitDefEqProofs := false) only [Try.ntmps39, Try.results39, efc39, h1, h2, h3, h4, a1, bne_self_eq_false, ss, List.replicate, evOp, evPlain, evVal, evMem, St.eval, St.put, St.get, constV, List.set, lenV, sliceOf, arrayOf, fieldsOf, normOf, norm, firstRegion, look, maskFrom, evBin, evIndexS, evLoad, evVar, evStore, evFieldAddr, nameOf, St.alloc, St.drop, killL, kill, killAll, killObs, killOb, upd, cells?, part, retag, retagL, putIn, refFree, refFreeL, isNew, isNewL, Ty.isAgg, splice, idsL, ids, idsLL, reach, depth, St.dropL, resultsV, resultV, ↓reduceIte, Nat.reduceBEq, Nat.reduceAdd, Nat.reduceSub, Nat.reduceMul, Nat.reduceEqDiff, Nat.reduceLeDiff, Nat.reduceLT, effOf, effMem, effStore, effCall, effVar, effLit, effMake, effApp, Eff.ap, lend, evLit, evMake, evNil, freeze, onto, dropO, elemsV, sized, evCmp, eqT, eqG, minV, evUn, evField, evExtract, evIndexA, evIndexV, evSlice, optInt, fillV, placeOf, thawed, del, isNilSlice, plain, plainL, cellsJ, junkOk, St.with, setSlots, setObs, wantedD, seqOf, noRange, setAll, Array.size, te, einl, inls]
      have : (expand xs).length = (expand ys).length := by simp at a1; omega
      simp only [encSame, this, decide_true, Bool.true_and]
      rw [Bool.eq_iff_iff.2 (show (((cpl (expand xs) (expand ys) : Nat) : Int) == ((expand ys).length : Int)) = true ↔ decide (cpl (expand xs) (expand ys) = (expand ys).length) = true by simp only [beq_iff_eq, decide_eq_true_eq]; omega)]
  · have hv' : (both xs ys != 0) = true := by simp [hv]
    simp (maxSteps := 1000000) (implicitDefEqProofs := false) only [Try.ntmps39, Try.results39, efc39, h1, hv', ss, List.replicate, evOp, evPlain, evVal, evMem, St.eval, St.put, St.get, constV, List.set, lenV, sliceOf, arrayOf, fieldsOf, normOf, norm, firstRegion, look, maskFrom, evBin, evIndexS, evLoad, evVar, evStore, evFieldAddr, nameOf, St.alloc, St.drop, killL, kill, killAll, killObs, killOb, upd, cells?, part, retag, retagL, putIn, refFree, refFreeL, isNew, isNewL, Ty.isAgg, splice, idsL, ids, idsLL, reach, depth, St.dropL, resultsV, resultV, ↓reduceIte, Nat.reduceBEq, Nat.reduceAdd, Nat.reduceSub, Nat.reduceMul, Nat.reduceEqDiff, Nat.reduceLeDiff, Nat.reduceLT, effOf, effMem, effStore, effCall, effVar, effLit, effMake, effApp, Eff.ap, lend, evLit, evMake, evNil, freeze, onto, dropO, elemsV, sized, evCmp, eqT, eqG, minV, evUn, evField, evExtract, evIndexA, evIndexV, evSlice, optInt, fillV, placeOf, thawed, del, isNilSlice, plain, plainL, cellsJ, junkOk, St.with, setSlots, setObs, wantedD, seqOf, noRange, setAll, Array.size, te, einl, inls]
    simp [encSame, sameM, hv]

theorem c40 (xs ys : List Run) (hn : xs.length ≤ 100000) (hm : ys.length ≤ 100000) : (orcω E X0).call 40 [.sl false (xs.map encRun), .sl false (ys.map encRun)] = some (encSame (sameM xs ys)) := by
  refine call_of rfl fn40 rfl ?_
  have h1 := c67 false false xs ys (by omega) (by omega)
  by_cases hv : both xs ys = 0
  · obtain ⟨v1, v2⟩ := both_zero hv
    have o1 := (valid_okay v1).1
    have o2 := (valid_okay v2).1
    have h2 := c76 false xs (by omega)
    have h3 := c76 false ys (by omega)
    rw [joinR_eq (valid_pos v1)] at h2
    rw [joinR_eq (valid_pos v2)] at h3
    have k1 := joined_normal o1
    have k2 := joined_normal o2
    have h4 := c25 false false (joinedL xs) (joinedL ys) (by omega)
    rw [hv] at h1
    have e1 := expand_len o1
    have e2 := expand_len o2
    have t1 := o1.2
    have t2 := o2.2
    have e3 : (joinedL xs = joinedL ys) ↔ (expand xs = expand ys) := ⟨fun h => by rw [← k1.2.1, ← k2.2.1, h], fun h => by rw [joined_rle o1.1 (by omega), joined_rle o2.1 (by omega), h]⟩
    simp (maxSteps := 1000000) (implicitDefEqProofs := false) only [Try.ntmps40, Try.results40, efc40, h1, h2, h3, h4, bne_self_eq_false, ss, List.replicate, evOp, evPlain, evVal, evMem, St.eval, St.put, St.get, constV, List.set, lenV, sliceOf, arrayOf, fieldsOf, normOf, norm, firstRegion, look, maskFrom, evBin, evIndexS, evLoad, evVar, evStore, evFieldAddr, nameOf, St.alloc, St.drop, killL, kill, killAll, killObs, killOb, upd, cells?, part, retag, retagL, putIn, refFree, refFreeL, isNew, isNewL, Ty.isAgg, splice, idsL, ids, idsLL, reach, depth, St.dropL, resultsV, resultV, ↓reduceIte, Nat.reduceBEq, Nat.reduceAdd, Nat.reduceSub, Nat.reduceMul, Nat.reduceEqDiff, Nat.reduceLeDiff, Nat.reduceLT, effOf, effMem, effStore, effCall, effVar, effLit, effMake, effApp, Eff.ap, lend, evLit, evMake, evNil, freeze, onto, dropO, elemsV, sized, evCmp, eqT, eqG, minV, evUn, evField, evExtract, evIndexA, evIndexV, evSlice, optInt, fillV, placeOf, thawed, del, isNilSlice, plain, plainL, cellsJ, junkOk, St.with, setSlots, setObs, wantedD, seqOf, noRange, setAll, Array.size, te, einl, inls]
    simp [encSame, sameM, hv, e3]
  · have hv' : (both xs ys != 0) = true := by simp [hv]
    simp (maxSteps := 1000000) (implicitDefEqProofs := false) only [Try.ntmps40, Try.results40, efc40, h1, hv', ss, List.replicate, evOp, evPlain, evVal, evMem, St.eval, St.put, St.get, constV, List.set, lenV, sliceOf, arrayOf, fieldsOf, normOf, norm, firstRegion, look, maskFrom, evBin, evIndexS, evLoad, evVar, evStore, evFieldAddr, nameOf, St.alloc, St.drop, killL, kill, killAll, killObs, killOb, upd, cells?, part, retag, retagL, putIn, refFree, refFreeL, isNew, isNewL, Ty.isAgg, splice, idsL, ids, idsLL, reach, depth, St.dropL, resultsV, resultV, ↓reduceIte, Nat.reduceBEq, Nat.reduceAdd, Nat.reduceSub, Nat.reduceMul, Nat.reduceEqDiff, Nat.reduceLeDiff, Nat.reduceLT, effOf, effMem, effStore, effCall, effVar, effLit, effMake, effApp, Eff.ap, lend, evLit, evMake, evNil, freeze, onto, dropO, elemsV, sized, evCmp, eqT, eqG, minV, evUn, evField, evExtract, evIndexA, evIndexV, evSlice, optInt, fillV, placeOf, thawed, del, isNilSlice, plain, plainL, cellsJ, junkOk, St.with, setSlots, setObs, wantedD, seqOf, noRange, setAll, Array.size, te, einl, inls]
    simp [encSame, sameM, hv]

theorem c8 (xs ys : List Run) : (orcω E X0).call 8 [.sl false (xs.map encRun), .sl false (ys.map encRun)] = some (.bool true) := by
  refine call_of rfl fn8 rfl ?_
  have k1 := c16 false xs
  have k2 := c16 false ys
  by_cases hx : (100 : Int) < xs.length
  · simp only [hx, decide_true] at k1
    simp (maxSteps := 1000000) (implicitDefEqProofs := false) only [Try.ntmps8, Try.results8, efc8, k1, c17, ss, List.replicate, evOp, evPlain, evVal, evMem, St.eval, St.put, St.get, constV, List.set, lenV, sliceOf, arrayOf, fieldsOf, normOf, norm, firstRegion, look, maskFrom, evBin, evIndexS, evLoad, evVar, evStore, evFieldAddr, nameOf, St.alloc, St.drop, killL, kill, killAll, killObs, killOb, upd, cells?, part, retag, retagL, putIn, refFree, refFreeL, isNew, isNewL, Ty.isAgg, splice, idsL, ids, idsLL, reach, depth, St.dropL, resultsV, resultV, ↓reduceIte, Nat.reduceBEq, Nat.reduceAdd, Nat.reduceSub, Nat.reduceMul, Nat.reduceEqDiff, Nat.reduceLeDiff, Nat.reduceLT, effOf, effMem, effStore, effCall, effVar, effLit, effMake, effApp, Eff.ap, lend, evLit, evMake, evNil, freeze, onto, dropO, elemsV, sized, evCmp, eqT, eqG, minV, evUn, evField, evExtract, evIndexA, evIndexV, evSlice, optInt, fillV, placeOf, thawed, del, isNilSlice, plain, plainL, cellsJ, junkOk, St.with, setSlots, setObs, wantedD, seqOf, noRange, setAll, Array.size, te, einl, inls]
  by_cases hy : (100 : Int) < ys.length
  · simp only [hx, hy, decide_true, decide_false] at k1 k2
    simp (maxSteps := 1000000) (implicitDefEqProofs := false) only [Try.ntmps8, Try.results8, efc8, k1, k2, c17, ss, List.replicate, evOp, evPlain, evVal, evMem, St.eval, St.put, St.get, constV, List.set, lenV, sliceOf, arrayOf, fieldsOf, normOf, norm, firstRegion, look, maskFrom, evBin, evIndexS, evLoad, evVar, evStore, evFieldAddr, nameOf, St.alloc, St.drop, killL, kill, killAll, killObs, killOb, upd, cells?, part, retag, retagL, putIn, refFree, refFreeL, isNew, isNewL, Ty.isAgg, splice, idsL, ids, idsLL, reach, depth, St.dropL, resultsV, resultV, ↓reduceIte, Nat.reduceBEq, Nat.reduceAdd, Nat.reduceSub, Nat.reduceMul, Nat.reduceEqDiff, Nat.reduceLeDiff, Nat.reduceLT, effOf, effMem, effStore, effCall, effVar, effLit, effMake, effApp, Eff.ap, lend, evLit, evMake, evNil, freeze, onto, dropO, elemsV, sized, evCmp, eqT, eqG, minV, evUn, evField, evExtract, evIndexA, evIndexV, evSlice, optInt, fillV, placeOf, thawed, del, isNilSlice, plain, plainL, cellsJ, junkOk, St.with, setSlots, setObs, wantedD, seqOf, noRange, setAll, Array.size, te, einl, inls]
  simp only [hx, hy, decide_false] at k1 k2
  have k3 := c39 xs ys (by omega) (by omega)
  have k4 := c40 xs ys (by omega) (by omega)
  have k5 := c41 xs ys (by omega) (by omega)
  have k6 := c21 false xs (by omega)
  have k7 := c21 false ys (by omega)
  by_cases hv : both xs ys = 0
  · obtain ⟨v1, v2⟩ := both_zero hv
    have o1 := (valid_okay v1).1
    have o2 := (valid_okay v2).1
    simp only [sameM, agreeM, if_pos hv, encSame, encLen, lengthM, if_pos v1, if_pos v2, ln_total o1, ln_total o2, ← expand_len o1, ← expand_len o2] at k3 k4 k5 k6 k7
    have e1 : ∀ b : Bool, (b != b) = false := by simp
    have e2 : (decide (expand xs = expand ys) == (((cpl (expand xs) (expand ys) : Nat) : Int) == ((expand xs).length : Int) && ((cpl (expand xs) (expand ys) : Nat) : Int) == ((expand ys).length : Int))) = true := by
      rw [same_iff_cpl, beq_iff_eq, Bool.eq_iff_iff]
      simp only [Bool.and_eq_true, decide_eq_true_eq, beq_iff_eq]
      omega
    cases a1 : ((cpl (expand xs) (expand ys) : Nat) : Int) == ((expand xs).length : Int) with
    | false =>
      rw [a1, Bool.false_and] at e2
      simp (maxSteps := 1000000) (implicitDefEqProofs := false) only [Try.ntmps8, Try.results8, efc8, k1, k2, k3, k4, k5, k6, k7, e1, a1, e2, bne_self_eq_false, beq_self_eq_true, c17, ss, List.replicate, evOp, evPlain, evVal, evMem, St.eval, St.put, St.get, constV, List.set, lenV, sliceOf, arrayOf, fieldsOf, normOf, norm, firstRegion, look, maskFrom, evBin, evIndexS, evLoad, evVar, evStore, evFieldAddr, nameOf, St.alloc, St.drop, killL, kill, killAll, killObs, killOb, upd, cells?, part, retag, retagL, putIn, refFree, refFreeL, isNew, isNewL, Ty.isAgg, splice, idsL, ids, idsLL, reach, depth, St.dropL, resultsV, resultV, ↓reduceIte, Nat.reduceBEq, Nat.reduceAdd, Nat.reduceSub, Nat.reduceMul, Nat.reduceEqDiff, Nat.reduceLeDiff, Nat.reduceLT, effOf, effMem, effStore, effCall, effVar, effLit, effMake, effApp, Eff.ap, lend, evLit, evMake, evNil, freeze, onto, dropO, elemsV, sized, evCmp, eqT, eqG, minV, evUn, evField, evExtract, evIndexA, evIndexV, evSlice, optInt, fillV, placeOf, thawed, del, isNilSlice, plain, plainL, cellsJ, junkOk, St.with, setSlots, setObs, wantedD, seqOf, noRange, setAll, Array.size, te, einl, inls]
    | true =>
      rw [a1, Bool.true_and] at e2
      simp (maxSteps := 1000000) (implicitDefEqProofs := false) only [Try.ntmps8, Try.results8, efc8, k1, k2, k3, k4, k5, k6, k7, e1, a1, e2, bne_self_eq_false, beq_self_eq_true, c17, ss, List.replicate, evOp, evPlain, evVal, evMem, St.eval, St.put, St.get, constV, List.set, lenV, sliceOf, arrayOf, fieldsOf, normOf, norm, firstRegion, look, maskFrom, evBin, evIndexS, evLoad, evVar, evStore, evFieldAddr, nameOf, St.alloc, St.drop, killL, kill, killAll, killObs, killOb, upd, cells?, part, retag, retagL, putIn, refFree, refFreeL, isNew, isNewL, Ty.isAgg, splice, idsL, ids, idsLL, reach, depth, St.dropL, resultsV, resultV, ↓reduceIte, Nat.reduceBEq, Nat.reduceAdd, Nat.reduceSub, Nat.reduceMul, Nat.reduceEqDiff, Nat.reduceLeDiff, Nat.reduceLT, effOf, effMem, effStore, effCall, effVar, effLit, effMake, effApp, Eff.ap, lend, evLit, evMake, evNil, freeze, onto, dropO, elemsV, sized, evCmp, eqT, eqG, minV, evUn, evField, evExtract, evIndexA, evIndexV, evSlice, optInt, fillV, placeOf, thawed, del, isNilSlice, plain, plainL, cellsJ, junkOk, St.with, setSlots, setObs, wantedD, seqOf, noRange, setAll, Array.size, te, einl, inls]
  · have hv' : (both xs ys != 0) = true := by simp [hv]
    simp only [sameM, agreeM, if_neg hv, encSame, encLen] at k3 k4 k5 k6 k7
    simp (maxSteps := 1000000) (implicitDefEqProofs := false) only [Try.ntmps8, Try.results8, efc8, k1, k2, k3, k4, k5, k6, k7, hv', bne_self_eq_false, beq_self_eq_true, c17, ss, List.replicate, evOp, evPlain, evVal, evMem, St.eval, St.put, St.get, constV, List.set, lenV, sliceOf, arrayOf, fieldsOf, normOf, norm, firstRegion, look, maskFrom, evBin, evIndexS, evLoad, evVar, evStore, evFieldAddr, nameOf, St.alloc, St.drop, killL, kill, killAll, killObs, killOb, upd, cells?, part, retag, retagL, putIn, refFree, refFreeL, isNew, isNewL, Ty.isAgg, splice, idsL, ids, idsLL, reach, depth, St.dropL, resultsV, resultV, ↓reduceIte, Nat.reduceBEq, Nat.reduceAdd, Nat.reduceSub, Nat.reduceMul, Nat.reduceEqDiff, Nat.reduceLeDiff, Nat.reduceLT, effOf, effMem, effStore, effCall, effVar, effLit, effMake, effApp, Eff.ap, lend, evLit, evMake, evNil, freeze, onto, dropO, elemsV, sized, evCmp, eqT, eqG, minV, evUn, evField, evExtract, evIndexA, evIndexV, evSlice, optInt, fillV, placeOf, thawed, del, isNilSlice, plain, plainL, cellsJ, junkOk, St.with, setSlots, setObs, wantedD, seqOf, noRange, setAll, Array.size, te, einl, inls]

end Go.AM.A
end

section
/-
What a slice and a change are, place by place; when a list of runs is valid.
-/
namespace Go.AM.A
open Go Go.Proofs

theorem expand_one (r : Run) (n : Int) : expand [{ r with len := n }] = List.replicate n.toNat r.mk' := by
  simp [expand, Run.mk']

theorem expand_piece (a lo hi : Int) (r : Run) : expand (piece a lo hi r) = List.replicate (min hi (a + r.len) - max lo a).toNat r.mk' := by
  unfold piece
  split
  · exact expand_one r _
  · rw [show (min hi (a + r.len) - max lo a).toNat = 0 by omega]; rfl

theorem expand_cut {lo hi : Int} : ∀ (rs : List Run) (a : Int), (∀ r ∈ rs, 1 ≤ r.len) → expand (cutL lo hi a rs) = ((expand rs).take (hi - a).toNat).drop (lo - a).toNat
  | [], a, _ => by simp [cutL, expand]
  | r :: rs, a, h => by
    have h1 := h r List.mem_cons_self
    have ih := expand_cut (lo := lo) (hi := hi) rs (a + r.len) fun x hx => h x (List.mem_cons_of_mem _ hx)
    rw [cutL, expand_app, expand_piece, ih, expand_cons, List.take_append, List.drop_append, List.take_replicate, List.drop_replicate, List.length_replicate, List.length_replicate]
    rw [show min (hi - a).toNat r.len.toNat - (lo - a).toNat = (min hi (a + r.len) - max lo a).toNat by omega, show (hi - a).toNat - r.len.toNat = (hi - (a + r.len)).toNat by omega]
    congr 1
    by_cases hh : hi ≤ a + r.len
    · rw [show (hi - (a + r.len)).toNat = 0 by omega]; simp
    · rw [show (lo - a).toNat - min (hi - a).toNat r.len.toNat = (lo - (a + r.len)).toNat by omega]

theorem total_piece {a lo hi : Int} {r : Run} (h : 1 ≤ r.len) : total (piece a lo hi r) ≤ r.len := by
  unfold piece
  split
  · rw [total_cons, total_nil]; dsimp only; omega
  · rw [total_nil]; omega

theorem total_cut {lo hi : Int} : ∀ (rs : List Run) (a : Int), (∀ r ∈ rs, 1 ≤ r.len) → total (cutL lo hi a rs) ≤ total rs
  | [], a, _ => Int.le_refl _
  | r :: rs, a, h => by
    have h1 := total_piece (a := a) (lo := lo) (hi := hi) (h r List.mem_cons_self)
    have ih := total_cut (lo := lo) (hi := hi) rs (a + r.len) fun x hx => h x (List.mem_cons_of_mem _ hx)
    rw [cutL, total_app, total_cons]; omega

theorem cut_okay {lo hi : Int} {rs : List Run} (a : Int) (h : Okay rs) : Okay (cutL lo hi a rs) :=
  ⟨lens_cut rs a, Int.le_trans (total_cut rs a h.1) h.2⟩

theorem finished_ok {js : List Run} (h1 : js.length ≤ 40) (h2 : Okay js) (h3 : total js ≤ 1000000) : finished js = (js, 0) := by
  unfold finished
  rw [ln_total h2, if_neg (by omega)]

theorem slice_rle {rs : List Run} {lo hi : Int} (hv : validate rs = 0) (hs : spanM rs lo hi = true) : sliceM rs lo hi = (rle (((expand rs).take hi.toNat).drop lo.toNat), 0) := by
  obtain ⟨v1, v2, v3⟩ := valid_okay hv
  have c1 := cut_okay (lo := lo) (hi := hi) 0 v1
  have c2 := total_cut (lo := lo) (hi := hi) rs 0 v1.1
  obtain ⟨n1, n2, n3, n4, n5⟩ := joined_normal c1
  have c3 := cutL_len lo hi rs 0
  unfold sliceM
  rw [if_pos hv, if_pos hs, finished_ok (by omega) n3 (by omega), joined_rle c1.1 (by have := c1.2; omega), expand_cut rs 0 v1.1]
  simp

def wellM (m : Mk) : Bool := inB m.thick 1 1000 && inB m.shade 0 99 && inB m.flaw 0 15

theorem mark_of {rs : List Run} {r : Run} (h : r ∈ rs) (hl : 1 ≤ r.len) : r.mk' ∈ expand rs := by
  unfold expand
  rw [List.mem_flatMap]
  exact ⟨r, h, by rw [List.mem_replicate]; exact ⟨by omega, rfl⟩⟩

theorem of_mark {rs : List Run} {m : Mk} (h : m ∈ expand rs) : ∃ r ∈ rs, r.mk' = m := by
  unfold expand at h
  rw [List.mem_flatMap] at h
  obtain ⟨r, h1, h2⟩ := h
  exact ⟨r, h1, (List.mem_replicate.1 h2).2.symm⟩

theorem wellB_mk {r : Run} : wellB r = (inB r.len 1 1000000 && wellM r.mk') := by
  simp [wellB, wellM, Run.mk', Bool.and_assoc]

theorem valid_marks {rs : List Run} (h : validate rs = 0) : ∀ m ∈ expand rs, wellM m = true := by
  intro m hm
  obtain ⟨r, h1, rfl⟩ := of_mark hm
  have := List.all_eq_true.1 (valid_all h) r h1
  rw [wellB_mk, Bool.and_eq_true] at this
  exact this.2

theorem le_total {rs : List Run} (h : ∀ r ∈ rs, 1 ≤ r.len) : ∀ r ∈ rs, r.len ≤ total rs := by
  induction rs with
  | nil => intro r hr; cases hr
  | cons x rs ih =>
    intro r hr
    have h1 := h x List.mem_cons_self
    have h2 : ∀ l : List Run, (∀ r ∈ l, 1 ≤ r.len) → 0 ≤ total l := by
      intro l
      induction l with
      | nil => intro _; exact Int.le_refl _
      | cons x l ih =>
        intro h
        have := ih fun r hr => h r (List.mem_cons_of_mem _ hr)
        have := h x List.mem_cons_self
        rw [total_cons]; omega
    have h3 := h2 rs fun x hx => h x (List.mem_cons_of_mem _ hx)
    rw [total_cons]
    rcases List.mem_cons.1 hr with rfl | hr
    · omega
    · have := ih (fun x hx => h x (List.mem_cons_of_mem _ hx)) r hr; omega

theorem valid_of {rs : List Run} (h1 : rs.length ≤ 40) (h2 : ∀ r ∈ rs, 1 ≤ r.len) (h3 : ∀ m ∈ expand rs, wellM m = true) (h4 : total rs ≤ 1000000) : validate rs = 0 := by
  have h5 := le_total h2
  have h6 : rs.all wellB = true := by
    rw [List.all_eq_true]
    intro r hr
    rw [wellB_mk, Bool.and_eq_true]
    refine ⟨?_, h3 _ (mark_of hr (h2 r hr))⟩
    have := h2 r hr
    have := h5 r hr
    simp only [inB, Bool.and_eq_true, decide_eq_true_eq]
    omega
  unfold validate
  rw [if_neg (by omega), if_pos h6, ln_total ⟨h2, by omega⟩, if_neg (by omega)]

/-- A band of these marks, in normal form, is valid. -/
theorem rle_valid {ms : List Mk} (h1 : (rle ms).length ≤ 40) (h2 : ms.length ≤ 1000000) (h3 : ∀ m ∈ ms, wellM m = true) : validate (rle ms) = 0 ∧ expand (rle ms) = ms ∧ Normal (rle ms) ∧ Okay (rle ms) := by
  obtain ⟨r1, r2, r3⟩ := rle_ok ms (by omega)
  have r4 : ∀ r ∈ rle ms, 1 ≤ r.len := fun r hr => (r1 r hr).1
  have r5 := expand_length r1
  rw [r2] at r5
  exact ⟨valid_of h1 r4 (by rw [r2]; exact h3) (by omega), r2, r3, r4, by omega⟩

theorem slice_len {rs : List Run} {lo hi : Int} (hv : validate rs = 0) (hs : spanM rs lo hi = true) : (rle (((expand rs).take hi.toNat).drop lo.toNat)).length ≤ 40 := by
  have h1 := sliceM_le rs lo hi
  rw [slice_rle hv hs] at h1
  have := (valid_okay hv).2.1
  dsimp only at h1
  omega

theorem valid_len {rs : List Run} (hv : validate rs = 0) : (expand rs).length ≤ 1000000 := by
  obtain ⟨v1, v2, v3⟩ := valid_okay hv
  have := expand_len v1
  omega

theorem slice_valid {rs : List Run} {lo hi : Int} (hv : validate rs = 0) (hs : spanM rs lo hi = true) :
    validate (rle (((expand rs).take hi.toNat).drop lo.toNat)) = 0 ∧ expand (rle (((expand rs).take hi.toNat).drop lo.toNat)) = ((expand rs).take hi.toNat).drop lo.toNat := by
  have := rle_valid (slice_len hv hs) (by have := valid_len hv; simp only [List.length_drop, List.length_take]; omega) (fun m hm => valid_marks hv m (List.mem_of_mem_take (List.mem_of_mem_drop hm)))
  exact ⟨this.1, this.2.1⟩

theorem cpl_take : ∀ (x y : List Mk), x.take (cpl x y) = y.take (cpl x y)
  | [], y => by simp [cpl]
  | a :: x, [] => by simp [cpl_nil_right]
  | a :: x, b :: y => by
    unfold cpl
    split
    · rename_i h
      subst h
      simp only [List.take_succ_cons, cpl_take x y]
    · simp

theorem cpl_next : ∀ (x y : List Mk) (m : Mk), x[cpl x y]? = some m → y[cpl x y]? ≠ some m
  | [], y, m => by simp [cpl]
  | a :: x, [], m => by simp
  | a :: x, b :: y, m => by
    unfold cpl
    split
    · simpa using cpl_next x y m
    · rename_i h
      simp only [List.getElem?_cons_zero, Option.some.injEq]
      rintro rfl e
      exact h (Option.some.inj e).symm

theorem cpl_le_left : ∀ (x y : List Mk), cpl x y ≤ x.length
  | [], y => by simp [cpl]
  | a :: x, [] => by simp [cpl_nil_right]
  | a :: x, b :: y => by
    unfold cpl
    split
    · have := cpl_le_left x y; simp; omega
    · simp

theorem cpl_le_right : ∀ (x y : List Mk), cpl x y ≤ y.length
  | [], y => by simp [cpl]
  | a :: x, [] => by simp [cpl_nil_right]
  | a :: x, b :: y => by
    unfold cpl
    split
    · have := cpl_le_right x y; simp; omega
    · simp

theorem span_of {rs : List Run} (hv : validate rs = 0) {lo hi : Int} : spanM rs lo hi = true ↔ 0 ≤ lo ∧ lo ≤ hi ∧ hi ≤ (expand rs).length := by
  have h1 := (valid_okay hv).1
  simp only [spanM, Bool.and_eq_true, decide_eq_true_eq, ln_total h1, ← expand_len h1]
  omega

end Go.AM.A
end

section
namespace Go.AM.A
open Go Go.Proofs

theorem agree_at {xs ys : List Run} (h1 : validate xs = 0) (h2 : validate ys = 0) :
    (decide ((atM xs (cpl (expand xs) (expand ys) : Nat)).2 ≠ 0) || (decide ((atM ys (cpl (expand xs) (expand ys) : Nat)).2 ≠ 0) || decide ((atM xs (cpl (expand xs) (expand ys) : Nat)).1 ≠ (atM ys (cpl (expand xs) (expand ys) : Nat)).1))) = true := by
  have h3 := cpl_next (expand xs) (expand ys)
  generalize cpl (expand xs) (expand ys) = n at *
  unfold atM
  rw [if_pos h1, if_pos h2, if_pos (Int.natCast_nonneg n), if_pos (Int.natCast_nonneg n), Int.toNat_natCast]
  cases hx : (expand xs)[n]? with
  | none => simp
  | some m =>
    cases hy : (expand ys)[n]? with
    | none => simp
    | some k =>
      have := h3 m hx
      rw [hy] at this
      simp at this
      simp
      exact fun e => this e.symm

theorem c12 (xs ys : List Run) : (orcω E X0).call 12 [.sl false (xs.map encRun), .sl false (ys.map encRun)] = some (.bool true) := by
  refine call_of rfl fn12 rfl ?_
  have k1 := c16 false xs
  have k2 := c16 false ys
  by_cases hx : (100 : Int) < xs.length
  · simp only [hx, decide_true] at k1
    simp (maxSteps := 1000000) (implicitDefEqProofs := false) only [Try.ntmps12, Try.results12, efc12, k1, c17, ss, List.replicate, evOp, evPlain, evVal, evMem, St.eval, St.put, St.get, constV, List.set, lenV, sliceOf, arrayOf, fieldsOf, normOf, norm, firstRegion, look, maskFrom, evBin, evIndexS, evLoad, evVar, evStore, evFieldAddr, nameOf, St.alloc, St.drop, killL, kill, killAll, killObs, killOb, upd, cells?, part, retag, retagL, putIn, refFree, refFreeL, isNew, isNewL, Ty.isAgg, splice, idsL, ids, idsLL, reach, depth, St.dropL, resultsV, resultV, ↓reduceIte, Nat.reduceBEq, Nat.reduceAdd, Nat.reduceSub, Nat.reduceMul, Nat.reduceEqDiff, Nat.reduceLeDiff, Nat.reduceLT, effOf, effMem, effStore, effCall, effVar, effLit, effMake, effApp, Eff.ap, lend, evLit, evMake, evNil, freeze, onto, dropO, elemsV, sized, evCmp, eqT, eqG, minV, evUn, evField, evExtract, evIndexA, evIndexV, evSlice, optInt, fillV, placeOf, thawed, del, isNilSlice, plain, plainL, cellsJ, junkOk, St.with, setSlots, setObs, wantedD, seqOf, noRange, setAll, Array.size, te, einl, inls]
  by_cases hy : (100 : Int) < ys.length
  · simp only [hx, hy, decide_true, decide_false] at k1 k2
    simp (maxSteps := 1000000) (implicitDefEqProofs := false) only [Try.ntmps12, Try.results12, efc12, k1, k2, c17, ss, List.replicate, evOp, evPlain, evVal, evMem, St.eval, St.put, St.get, constV, List.set, lenV, sliceOf, arrayOf, fieldsOf, normOf, norm, firstRegion, look, maskFrom, evBin, evIndexS, evLoad, evVar, evStore, evFieldAddr, nameOf, St.alloc, St.drop, killL, kill, killAll, killObs, killOb, upd, cells?, part, retag, retagL, putIn, refFree, refFreeL, isNew, isNewL, Ty.isAgg, splice, idsL, ids, idsLL, reach, depth, St.dropL, resultsV, resultV, ↓reduceIte, Nat.reduceBEq, Nat.reduceAdd, Nat.reduceSub, Nat.reduceMul, Nat.reduceEqDiff, Nat.reduceLeDiff, Nat.reduceLT, effOf, effMem, effStore, effCall, effVar, effLit, effMake, effApp, Eff.ap, lend, evLit, evMake, evNil, freeze, onto, dropO, elemsV, sized, evCmp, eqT, eqG, minV, evUn, evField, evExtract, evIndexA, evIndexV, evSlice, optInt, fillV, placeOf, thawed, del, isNilSlice, plain, plainL, cellsJ, junkOk, St.with, setSlots, setObs, wantedD, seqOf, noRange, setAll, Array.size, te, einl, inls]
  simp only [hx, hy, decide_false] at k1 k2
  have k3 := c41 xs ys (by omega) (by omega)
  have k4 := c56 xs ys (by omega) (by omega)
  by_cases hv : both xs ys = 0
  · obtain ⟨v1, v2⟩ := both_zero hv
    have e1 := agree_at v1 v2
    have l1 := cpl_le_left (expand xs) (expand ys)
    have l2 := cpl_le_right (expand xs) (expand ys)
    have tk := cpl_take (expand xs) (expand ys)
    simp only [agreeM, if_pos hv, encLen] at k3 k4
    generalize cpl (expand xs) (expand ys) = n at *
    have s1 : spanM xs 0 n = true := (span_of v1).2 (by omega)
    have s2 : spanM ys 0 n = true := (span_of v2).2 (by omega)
    have k5 := c31 xs 0 n (by omega)
    have k6 := c31 ys 0 n (by omega)
    have k7 := c33 xs n (by omega)
    have k8 := c33 ys n (by omega)
    have l3 := slice_len v1 s1
    rw [slice_rle v1 s1] at k5
    rw [slice_rle v2 s2] at k6
    rw [show (0 : Int).toNat = 0 from rfl, List.drop_zero, Int.toNat_natCast] at k5 k6 l3
    rw [← tk] at k6
    generalize rle ((expand xs).take n) = js at *
    have k9 := c25 false false js js (by omega)
    generalize atM xs n = U at *
    generalize atM ys n = W at *
    obtain ⟨u, i⟩ := U
    obtain ⟨w, j⟩ := W
    simp only [encAt, encRes, decide_true] at k7 k8 k5 k6 k9
    dsimp only at e1
    by_cases a1 : i = 0
    · by_cases a2 : j = 0
      · have a3 : (u.thick == w.thick && (u.shade == w.shade && u.flaw == w.flaw)) = false := by
          subst a1; subst a2
          simp only [ne_eq, not_true_eq_false, decide_false, Bool.false_or, decide_eq_true_eq] at e1
          cases u; cases w
          simp only [Mk.mk.injEq] at e1
          simpa using e1
        subst a1; subst a2
        simp (maxSteps := 1000000) (implicitDefEqProofs := false) only [Try.ntmps12, Try.results12, efc12, k1, k2, k3, k4, k5, k6, k7, k8, k9, encMk, a3, bne_self_eq_false, beq_self_eq_true, c17, ss, List.replicate, evOp, evPlain, evVal, evMem, St.eval, St.put, St.get, constV, List.set, lenV, sliceOf, arrayOf, fieldsOf, normOf, norm, firstRegion, look, maskFrom, evBin, evIndexS, evLoad, evVar, evStore, evFieldAddr, nameOf, St.alloc, St.drop, killL, kill, killAll, killObs, killOb, upd, cells?, part, retag, retagL, putIn, refFree, refFreeL, isNew, isNewL, Ty.isAgg, splice, idsL, ids, idsLL, reach, depth, St.dropL, resultsV, resultV, ↓reduceIte, Nat.reduceBEq, Nat.reduceAdd, Nat.reduceSub, Nat.reduceMul, Nat.reduceEqDiff, Nat.reduceLeDiff, Nat.reduceLT, effOf, effMem, effStore, effCall, effVar, effLit, effMake, effApp, Eff.ap, lend, evLit, evMake, evNil, freeze, onto, dropO, elemsV, sized, evCmp, eqT, eqG, minV, evUn, evField, evExtract, evIndexA, evIndexV, evSlice, optInt, fillV, placeOf, thawed, del, isNilSlice, plain, plainL, cellsJ, junkOk, St.with, setSlots, setObs, wantedD, seqOf, noRange, setAll, Array.size, te, einl, inls]
      · have a2' : (j != 0) = true := by simp [a2]
        subst a1
        simp (maxSteps := 1000000) (implicitDefEqProofs := false) only [Try.ntmps12, Try.results12, efc12, k1, k2, k3, k4, k5, k6, k7, k8, k9, encMk, a2', bne_self_eq_false, beq_self_eq_true, c17, ss, List.replicate, evOp, evPlain, evVal, evMem, St.eval, St.put, St.get, constV, List.set, lenV, sliceOf, arrayOf, fieldsOf, normOf, norm, firstRegion, look, maskFrom, evBin, evIndexS, evLoad, evVar, evStore, evFieldAddr, nameOf, St.alloc, St.drop, killL, kill, killAll, killObs, killOb, upd, cells?, part, retag, retagL, putIn, refFree, refFreeL, isNew, isNewL, Ty.isAgg, splice, idsL, ids, idsLL, reach, depth, St.dropL, resultsV, resultV, ↓reduceIte, Nat.reduceBEq, Nat.reduceAdd, Nat.reduceSub, Nat.reduceMul, Nat.reduceEqDiff, Nat.reduceLeDiff, Nat.reduceLT, effOf, effMem, effStore, effCall, effVar, effLit, effMake, effApp, Eff.ap, lend, evLit, evMake, evNil, freeze, onto, dropO, elemsV, sized, evCmp, eqT, eqG, minV, evUn, evField, evExtract, evIndexA, evIndexV, evSlice, optInt, fillV, placeOf, thawed, del, isNilSlice, plain, plainL, cellsJ, junkOk, St.with, setSlots, setObs, wantedD, seqOf, noRange, setAll, Array.size, te, einl, inls]
    · have a1' : (i != 0) = true := by simp [a1]
      simp (maxSteps := 1000000) (implicitDefEqProofs := false) only [Try.ntmps12, Try.results12, efc12, k1, k2, k3, k4, k5, k6, k7, k8, k9, encMk, a1', bne_self_eq_false, beq_self_eq_true, c17, ss, List.replicate, evOp, evPlain, evVal, evMem, St.eval, St.put, St.get, constV, List.set, lenV, sliceOf, arrayOf, fieldsOf, normOf, norm, firstRegion, look, maskFrom, evBin, evIndexS, evLoad, evVar, evStore, evFieldAddr, nameOf, St.alloc, St.drop, killL, kill, killAll, killObs, killOb, upd, cells?, part, retag, retagL, putIn, refFree, refFreeL, isNew, isNewL, Ty.isAgg, splice, idsL, ids, idsLL, reach, depth, St.dropL, resultsV, resultV, ↓reduceIte, Nat.reduceBEq, Nat.reduceAdd, Nat.reduceSub, Nat.reduceMul, Nat.reduceEqDiff, Nat.reduceLeDiff, Nat.reduceLT, effOf, effMem, effStore, effCall, effVar, effLit, effMake, effApp, Eff.ap, lend, evLit, evMake, evNil, freeze, onto, dropO, elemsV, sized, evCmp, eqT, eqG, minV, evUn, evField, evExtract, evIndexA, evIndexV, evSlice, optInt, fillV, placeOf, thawed, del, isNilSlice, plain, plainL, cellsJ, junkOk, St.with, setSlots, setObs, wantedD, seqOf, noRange, setAll, Array.size, te, einl, inls]
  · have hv' : (both xs ys != 0) = true := by simp [hv]
    simp only [agreeM, if_neg hv, encLen] at k3 k4
    simp (maxSteps := 1000000) (implicitDefEqProofs := false) only [Try.ntmps12, Try.results12, efc12, k1, k2, k3, k4, hv', bne_self_eq_false, beq_self_eq_true, c17, ss, List.replicate, evOp, evPlain, evVal, evMem, St.eval, St.put, St.get, constV, List.set, lenV, sliceOf, arrayOf, fieldsOf, normOf, norm, firstRegion, look, maskFrom, evBin, evIndexS, evLoad, evVar, evStore, evFieldAddr, nameOf, St.alloc, St.drop, killL, kill, killAll, killObs, killOb, upd, cells?, part, retag, retagL, putIn, refFree, refFreeL, isNew, isNewL, Ty.isAgg, splice, idsL, ids, idsLL, reach, depth, St.dropL, resultsV, resultV, ↓reduceIte, Nat.reduceBEq, Nat.reduceAdd, Nat.reduceSub, Nat.reduceMul, Nat.reduceEqDiff, Nat.reduceLeDiff, Nat.reduceLT, effOf, effMem, effStore, effCall, effVar, effLit, effMake, effApp, Eff.ap, lend, evLit, evMake, evNil, freeze, onto, dropO, elemsV, sized, evCmp, eqT, eqG, minV, evUn, evField, evExtract, evIndexA, evIndexV, evSlice, optInt, fillV, placeOf, thawed, del, isNilSlice, plain, plainL, cellsJ, junkOk, St.with, setSlots, setObs, wantedD, seqOf, noRange, setAll, Array.size, te, einl, inls]

end Go.AM.A
end

section
/-
Where a piece occurs first.
-/
namespace Go.AM.A
open Go Go.Proofs

/-- The piece `p` begins at place `k`. -/
def Occ (ms p : List Mk) (k : Nat) : Prop := p <+: ms.drop k ∧ k ≤ ms.length

theorem occ_len {ms p : List Mk} {k : Nat} (h : Occ ms p k) : k + p.length ≤ ms.length := by
  have := h.2
  have h3 := h.1.length_le
  rw [List.length_drop] at h3
  omega

theorem occ_take {ms p : List Mk} {k : Nat} : Occ ms p k ↔ ((ms.take (k + p.length)).drop k = p ∧ k + p.length ≤ ms.length) := by
  constructor
  · intro h
    refine ⟨?_, occ_len h⟩
    rw [List.drop_take, show k + p.length - k = p.length by omega]
    exact (List.prefix_iff_eq_take.1 h.1).symm
  · rintro ⟨h1, h2⟩
    refine ⟨?_, by omega⟩
    rw [List.prefix_iff_eq_take]
    rw [List.drop_take, show k + p.length - k = p.length by omega] at h1
    exact h1.symm

def findR (ms p : List Mk) : Int × Bool := match (List.range (ms.length + 1)).find? (fun k => p.isPrefixOf (ms.drop k)) with
  | some k => (k, true)
  | none => (0, false)

def First (ms p : List Mk) (b : Int) (f : Bool) : Prop := (f = true ∧ ∃ k : Nat, b = k ∧ Occ ms p k ∧ ∀ j, j < k → ¬ Occ ms p j) ∨ (f = false ∧ b = 0 ∧ ∀ j, ¬ Occ ms p j)

theorem first_find {ms p : List Mk} {b : Int} {f : Bool} (h : First ms p b f) : findR ms p = (b, f) := by
  unfold findR
  rcases h with ⟨rfl, k, rfl, h1, h2⟩ | ⟨rfl, rfl, h⟩
  · rw [(List.find?_range_eq_some).2 ⟨List.isPrefixOf_iff_prefix.2 h1.1, by simp; have := h1.2; omega, fun j hj => ?_⟩]
    cases hp : p.isPrefixOf (ms.drop j) with
    | false => rfl
    | true => exact absurd ⟨List.isPrefixOf_iff_prefix.1 hp, by have := h1.2; omega⟩ (h2 j hj)
  · rw [(List.find?_range_eq_none).2 fun j hj => ?_]
    cases hp : p.isPrefixOf (ms.drop j) with
    | false => rfl
    | true => exact absurd ⟨List.isPrefixOf_iff_prefix.1 hp, by omega⟩ (h j)

theorem cpl_cons (a b : Mk) (x y : List Mk) : cpl (a :: x) (b :: y) = if a = b then cpl x y + 1 else 0 := by
  rw [cpl]

theorem prefix_cpl : ∀ {p x : List Mk}, p <+: x ↔ cpl p x = p.length
  | [], x => by simp [cpl]
  | a :: p, [] => by simp [cpl_nil_right]
  | a :: p, b :: x => by
    rw [List.cons_prefix_cons, prefix_cpl (p := p) (x := x), cpl_cons]
    by_cases h : a = b
    · simp [h]
    · simp [h]

def occT : List Run → List Run → Bool
  | [], _ => true
  | _ :: _, [] => false
  | q :: qs, r :: rs => decide (q.mk' = r.mk') && (if qs = [] then decide (q.len ≤ r.len) else decide (q.len = r.len)) && occT qs rs

theorem expand_ne {rs : List Run} {B : Int} (h : Lens B rs) (hn : rs ≠ []) : 0 < (expand rs).length := by
  cases rs with
  | nil => exact absurd rfl hn
  | cons r rs =>
    have := (h r List.mem_cons_self).1
    rw [expand_cons, List.length_append, List.length_replicate]; omega

theorem lens_tail {B : Int} {r : Run} {rs : List Run} (h : Lens B (r :: rs)) : Lens B rs := fun x hx => h x (List.mem_cons_of_mem _ hx)

theorem occ_step {B C : Int} {q r : Run} {qs rs : List Run} (h1 : Lens B (q :: qs)) (h2 : Lens C (r :: rs)) (n1 : Normal (q :: qs)) (n2 : Normal (r :: rs)) :
    expand (q :: qs) <+: expand (r :: rs) ↔ q.mk' = r.mk' ∧ (if qs = [] then q.len ≤ r.len else q.len = r.len) ∧ (qs = [] ∨ expand qs <+: expand rs) := by
  have h3 := cpl_step h1 h2 n1 n2
  have h4 := (h1 q List.mem_cons_self).1
  have h5 := (h2 r List.mem_cons_self).1
  rw [prefix_cpl, prefix_cpl]
  have h6 : ((expand (q :: qs)).length : Int) = q.len + (expand qs).length := by rw [expand_cons, List.length_append, List.length_replicate]; omega
  by_cases hm : q.mk' = r.mk'
  · rw [if_neg (by simpa using hm)] at h3
    by_cases hq : qs = []
    · subst hq
      rw [expand_nil] at h6 h3
      simp only [hm, if_true, true_and, true_or, and_true]
      by_cases hl : q.len = r.len
      · rw [if_pos hl, cpl_nil_left] at h3
        simp at h6 h3
        omega
      · rw [if_neg hl] at h3
        simp at h6 h3
        omega
    · have h7 := expand_ne (lens_tail h1) hq
      simp only [hm, hq, if_false, true_and, false_or]
      by_cases hl : q.len = r.len
      · rw [if_pos hl] at h3
        omega
      · rw [if_neg hl] at h3
        omega
  · rw [if_pos hm] at h3
    have : cpl (expand (q :: qs)) (expand (r :: rs)) ≠ (expand (q :: qs)).length := by omega
    simp [hm, this]

theorem occT_iff {B C : Int} : ∀ {qs rs : List Run}, Lens B qs → Lens C rs → Normal qs → Normal rs → (occT qs rs = true ↔ expand qs <+: expand rs)
  | [], rs, _, _, _, _ => by simp [occT, expand]
  | q :: qs, [], h1, _, _, _ => by
    have := expand_ne h1 (by simp)
    simp only [occT, expand_nil, List.prefix_nil]
    constructor
    · intro h; cases h
    · intro h; rw [h] at this; simp at this
  | q :: qs, r :: rs, h1, h2, n1, n2 => by
    rw [occ_step h1 h2 n1 n2, ← occT_iff (lens_tail h1) (lens_tail h2) (normal_tail n1) (normal_tail n2)]
    simp only [occT, Bool.and_eq_true, decide_eq_true_eq]
    by_cases hq : qs = []
    · subst hq; simp [occT]
    · simp [hq, and_assoc]

theorem normal_len {r : Run} {rs : List Run} (n : Int) (h : Normal (r :: rs)) : Normal ({ r with len := n } :: rs) := by
  cases rs with
  | nil => trivial
  | cons s rs => exact h

theorem drop_run {r : Run} {rs : List Run} {d : Nat} (h : (d : Int) < r.len) : (expand (r :: rs)).drop d = expand ({ r with len := r.len - d } :: rs) := by
  rw [expand_cons, expand_cons, List.drop_append, List.drop_replicate, List.length_replicate, show d - r.len.toNat = 0 by omega, List.drop_zero, show (r.len - d).toNat = r.len.toNat - d by omega]
  rfl

/-- At which places of its first run a piece begins. -/
theorem occ_run {B C : Int} {q r : Run} {qs rs : List Run} (h1 : Lens B (q :: qs)) (h2 : Lens C (r :: rs)) (n1 : Normal (q :: qs)) (n2 : Normal (r :: rs)) {d : Nat} (hd : (d : Int) < r.len) :
    expand (q :: qs) <+: (expand (r :: rs)).drop d ↔ q.mk' = r.mk' ∧ (if qs = [] then q.len ≤ r.len - d else q.len = r.len - d) ∧ occT qs rs = true := by
  rw [drop_run hd]
  have h3 : Lens C ({ r with len := r.len - d } :: rs) := by
    intro x hx
    rcases List.mem_cons.1 hx with rfl | hx
    · have := h2 r List.mem_cons_self
      dsimp only; omega
    · exact h2 x (List.mem_cons_of_mem _ hx)
  rw [occ_step h1 h3 n1 (normal_len _ n2), occT_iff (lens_tail h1) (lens_tail h2) (normal_tail n1) (normal_tail n2)]
  have : (qs = [] ∨ expand qs <+: expand rs) ↔ expand qs <+: expand rs := by
    constructor
    · rintro (rfl | h)
      · exact List.nil_prefix
      · exact h
    · exact Or.inr
  rw [this]
  rfl

def occI : Bool → List Run → List Run → Bool
  | _, [], _ => true
  | _, _ :: _, [] => false
  | f, q :: qs, r :: rs => decide (r.mk' = q.mk') && (decide (q.len ≤ r.len) && ((f || qs.isEmpty || decide (r.len = q.len)) && occI false qs rs))

theorem occI_occT : ∀ (qs rs : List Run), occI false qs rs = occT qs rs
  | [], rs => by simp [occI, occT]
  | q :: qs, [] => by simp [occI, occT]
  | q :: qs, r :: rs => by
    rw [occI, occT, occI_occT qs rs, Bool.eq_iff_iff]
    simp only [Bool.false_or, Bool.and_eq_true, decide_eq_true_eq, Bool.or_eq_true, List.isEmpty_iff]
    by_cases hq : qs = []
    · subst hq; simp only [occT, if_true, decide_eq_true_eq, true_or, and_true]
      constructor
      · rintro ⟨a, b⟩; exact ⟨a.symm, b⟩
      · rintro ⟨a, b⟩; exact ⟨a.symm, b⟩
    · simp only [hq, false_or, if_false, decide_eq_true_eq]
      constructor
      · rintro ⟨a, b, c, d⟩; exact ⟨⟨a.symm, c.symm⟩, d⟩
      · rintro ⟨⟨a, b⟩, c⟩; exact ⟨a.symm, by omega, b.symm, c⟩

theorem occI_len : ∀ (f : Bool) (qs rs : List Run), occI f qs rs = true → qs.length ≤ rs.length
  | _, [], rs, _ => Nat.zero_le _
  | _, q :: qs, [], h => by simp [occI] at h
  | f, q :: qs, r :: rs, h => by
    simp only [occI, Bool.and_eq_true] at h
    have := occI_len false qs rs h.2.2.2
    simp; omega

/-- The place in its first run at which a piece begins. -/
def shift (r q : Run) (qs : List Run) : Int := if qs = [] then 0 else r.len - q.len

theorem occ_first {B C : Int} {q r : Run} {qs rs : List Run} (h1 : Lens B (q :: qs)) (h2 : Lens C (r :: rs)) (n1 : Normal (q :: qs)) (n2 : Normal (r :: rs)) (h : occI true (q :: qs) (r :: rs) = true) :
    0 ≤ shift r q qs ∧ shift r q qs < r.len ∧ expand (q :: qs) <+: (expand (r :: rs)).drop (shift r q qs).toNat ∧ ∀ d : Nat, (d : Int) < shift r q qs → ¬ expand (q :: qs) <+: (expand (r :: rs)).drop d := by
  have h4 := (h1 q List.mem_cons_self).1
  have h5 := (h2 r List.mem_cons_self).1
  simp only [occI, Bool.true_or, Bool.true_and, Bool.and_eq_true, decide_eq_true_eq, occI_occT] at h
  obtain ⟨a, b, c⟩ := h
  unfold shift
  split
  · rename_i hq
    subst hq
    refine ⟨Int.le_refl _, by omega, ?_, fun d hd => by omega⟩
    rw [occ_run h1 h2 n1 n2 (by simp; omega)]
    exact ⟨a.symm, by rw [if_pos rfl]; simp; omega, c⟩
  · rename_i hq
    refine ⟨by omega, by omega, ?_, fun d hd => ?_⟩
    · rw [occ_run h1 h2 n1 n2 (by omega)]
      exact ⟨a.symm, by rw [if_neg hq]; omega, c⟩
    · rw [occ_run h1 h2 n1 n2 (by omega), if_neg hq]
      rintro ⟨_, h8, _⟩
      omega

theorem occ_never {B C : Int} {q r : Run} {qs rs : List Run} (h1 : Lens B (q :: qs)) (h2 : Lens C (r :: rs)) (n1 : Normal (q :: qs)) (n2 : Normal (r :: rs)) (h : occI true (q :: qs) (r :: rs) = false) (d : Nat) (hd : (d : Int) < r.len) :
    ¬ expand (q :: qs) <+: (expand (r :: rs)).drop d := by
  have h4 := (h1 q List.mem_cons_self).1
  rw [occ_run h1 h2 n1 n2 hd]
  rintro ⟨a, b, c⟩
  have : occI true (q :: qs) (r :: rs) = true := by
    simp only [occI, Bool.true_or, Bool.true_and, Bool.and_eq_true, decide_eq_true_eq, occI_occT]
    refine ⟨a.symm, ?_, c⟩
    split at b <;> omega
  rw [h] at this
  cases this

end Go.AM.A
end

section
namespace Go.AM.A
open Go Go.Proofs

theorem okT77 : okCode (Try.f77.body.getD .skip) = true := by decide +kernel

set_option maxHeartbeats 4000000 in
theorem c77 (ps qs : List Run) (hn : ps.length ≤ 100000) (hm : qs.length ≤ 100000) : (orcω E X0).call 77 [.sl false (ps.map encRun), .sl false (qs.map encRun)] = some (.bool (occI true qs ps)) := by
  refine call_of rfl fn77 rfl ?_
  have hok := okT77
  simp only [Try.f77, Option.getD_some, okCode, Bool.and_eq_true, Bool.and_true, Bool.true_and] at hok
  by_cases hl : ps.length < qs.length
  · have hi : occI true qs ps = false := by
      cases h : occI true qs ps with
      | false => rfl
      | true => have := occI_len true qs ps h; omega
    have hl' : (ps.length : Int) < qs.length := by omega
    simp (maxSteps := 1000000) (implicitDefEqProofs := false) only [Try.ntmps77, Try.results77, efc77, fc77, hl', hi, ss, List.replicate, evOp, evPlain, evVal, evMem, St.eval, St.put, St.get, constV, List.set, lenV, sliceOf, arrayOf, fieldsOf, normOf, norm, firstRegion, look, maskFrom, evBin, evIndexS, evLoad, evVar, evStore, evFieldAddr, nameOf, St.alloc, St.drop, killL, kill, killAll, killObs, killOb, upd, cells?, part, retag, retagL, putIn, refFree, refFreeL, isNew, isNewL, Ty.isAgg, splice, idsL, ids, idsLL, reach, depth, St.dropL, resultsV, resultV, ↓reduceIte, Nat.reduceBEq, Nat.reduceAdd, Nat.reduceSub, Nat.reduceMul, Nat.reduceEqDiff, Nat.reduceLeDiff, Nat.reduceLT, effOf, effMem, effStore, effCall, effVar, effLit, effMake, effApp, Eff.ap, lend, evLit, evMake, evNil, freeze, onto, dropO, elemsV, sized, evCmp, eqT, eqG, minV, evUn, evField, evExtract, evIndexA, evIndexV, evSlice, optInt, fillV, placeOf, thawed, del, isNilSlice, plain, plainL, cellsJ, junkOk, St.with, setSlots, setObs, wantedD, seqOf, noRange, setAll, Array.size, te, einl, inls]
  have hl' : ¬ (ps.length : Int) < qs.length := by omega
  simp (maxSteps := 1000000) (implicitDefEqProofs := false) only [Try.ntmps77, Try.results77, efc77, fc77, hl', ss, List.replicate, evOp, evPlain, evVal, evMem, St.eval, St.put, St.get, constV, List.set, lenV, sliceOf, arrayOf, fieldsOf, normOf, norm, firstRegion, look, maskFrom, evBin, evIndexS, evLoad, evVar, evStore, evFieldAddr, nameOf, St.alloc, St.drop, killL, kill, killAll, killObs, killOb, upd, cells?, part, retag, retagL, putIn, refFree, refFreeL, isNew, isNewL, Ty.isAgg, splice, idsL, ids, idsLL, reach, depth, St.dropL, resultsV, resultV, ↓reduceIte, Nat.reduceBEq, Nat.reduceAdd, Nat.reduceSub, Nat.reduceMul, Nat.reduceEqDiff, Nat.reduceLeDiff, Nat.reduceLT, effOf, effMem, effStore, effCall, effVar, effLit, effMake, effApp, Eff.ap, lend, evLit, evMake, evNil, freeze, onto, dropO, elemsV, sized, evCmp, eqT, eqG, minV, evUn, evField, evExtract, evIndexA, evIndexV, evSlice, optInt, fillV, placeOf, thawed, del, isNilSlice, plain, plainL, cellsJ, junkOk, St.with, setSlots, setObs, wantedD, seqOf, noRange, setAll, Array.size, te, einl, inls]
  generalize hr : loopAt _ _ _ _ _ _ = r; revert r
  refine loop_list qs (fun pre _ => [(15, .int .i64 pre.length)]) (fun _ _ => []) (fun pre (_ : Unit) => occI true qs ps = occI pre.isEmpty (qs.drop pre.length) (ps.drop pre.length)) () (by omega) (by simp (maxSteps := 1000000) (implicitDefEqProofs := false) only [ss, List.replicate, evOp, evPlain, evVal, evMem, St.eval, St.put, St.get, constV, List.set, lenV, sliceOf, arrayOf, fieldsOf, normOf, norm, firstRegion, look, maskFrom, evBin, evIndexS, evLoad, evVar, evStore, evFieldAddr, nameOf, St.alloc, St.drop, killL, kill, killAll, killObs, killOb, upd, cells?, part, retag, retagL, putIn, refFree, refFreeL, isNew, isNewL, Ty.isAgg, splice, idsL, ids, idsLL, reach, depth, St.dropL, resultsV, resultV, ↓reduceIte, Nat.reduceBEq, Nat.reduceAdd, Nat.reduceSub, Nat.reduceMul, Nat.reduceEqDiff, Nat.reduceLeDiff, Nat.reduceLT, effOf, effMem, effStore, effCall, effVar, effLit, effMake, effApp, Eff.ap, lend, evLit, evMake, evNil, freeze, onto, dropO, elemsV, sized, evCmp, eqT, eqG, minV, evUn, evField, evExtract, evIndexA, evIndexV, evSlice, optInt, fillV, placeOf, thawed, del, isNilSlice, plain, plainL, cellsJ, junkOk, St.with, setSlots, setObs, wantedD, seqOf, noRange, setAll, Array.size, te, einl, inls]) (by simp) (fun _ hi => ?_) (fun pre x post _ hp hi g1 g2 g3 g4 => ?_)
  · rw [List.drop_length] at hi
    rw [hi]
    simp (maxSteps := 1000000) (implicitDefEqProofs := false) only [Int.lt_irrefl, Try.ntmps77, Try.results77, efc77, fc77, occI, ss, List.replicate, evOp, evPlain, evVal, evMem, St.eval, St.put, St.get, constV, List.set, lenV, sliceOf, arrayOf, fieldsOf, normOf, norm, firstRegion, look, maskFrom, evBin, evIndexS, evLoad, evVar, evStore, evFieldAddr, nameOf, St.alloc, St.drop, killL, kill, killAll, killObs, killOb, upd, cells?, part, retag, retagL, putIn, refFree, refFreeL, isNew, isNewL, Ty.isAgg, splice, idsL, ids, idsLL, reach, depth, St.dropL, resultsV, resultV, ↓reduceIte, Nat.reduceBEq, Nat.reduceAdd, Nat.reduceSub, Nat.reduceMul, Nat.reduceEqDiff, Nat.reduceLeDiff, Nat.reduceLT, effOf, effMem, effStore, effCall, effVar, effLit, effMake, effApp, Eff.ap, lend, evLit, evMake, evNil, freeze, onto, dropO, elemsV, sized, evCmp, eqT, eqG, minV, evUn, evField, evExtract, evIndexA, evIndexV, evSlice, optInt, fillV, placeOf, thawed, del, isNilSlice, plain, plainL, cellsJ, junkOk, St.with, setSlots, setObs, wantedD, seqOf, noRange, setAll, Array.size, te, einl, inls]
  · have h1 : pre.length < ps.length := by have := congrArg List.length hp; simp at this; omega
    have h2 : ps[pre.length]? = some ps[pre.length] := List.getElem?_eq_getElem h1
    have h3 : ps.drop pre.length = ps[pre.length] :: ps.drop (pre.length + 1) := List.drop_eq_getElem_cons h1
    have h4 : qs.drop pre.length = x :: post := by rw [hp]; simp
    generalize ps[pre.length] = r at *
    rw [h3, h4] at hi
    have h5 : post = qs.drop (pre.length + 1) := by rw [hp]; simp
    have h6 : (qs.length : Int) = pre.length + 1 + post.length := by rw [hp]; simp; omega
    have w1 : IntKind.i64.wrap ((qs.length : Int) - 1) = (qs.length : Int) - 1 := wrap_in (by omega)
    have g5 : ((pre.length : Int) == (qs.length : Int) - 1) = post.isEmpty := by
      rw [Bool.eq_iff_iff, beq_iff_eq, List.isEmpty_iff_length_eq_zero]; omega
    have g6 : ((pre.length : Int) == 0) = pre.isEmpty := by
      rw [Bool.eq_iff_iff, beq_iff_eq, List.isEmpty_iff_length_eq_zero]; omega
    have c1 := mk_eq r x
    simp only [occI] at hi
    by_cases hm : r.mk' = x.mk'
    · rw [decide_eq_true hm] at c1 hi
      by_cases hlt : r.len < x.len
      · have hle : decide (x.len ≤ r.len) = false := by simp; omega
        rw [hle] at hi
        simp only [Bool.true_and, Bool.false_and] at hi
        cases e0 : pre.isEmpty with
        | true => simp (maxSteps := 1000000) (implicitDefEqProofs := false) only [w1, e0, g1, g2, g3, g4, g5, g6, h2, Int.natCast_nonneg, Int.toNat_natCast, List.getElem?_map, encRun, c1, hlt, hok, evRegion_st, Try.ntmps77, Try.results77, efc77, fc77, hi, ss, List.replicate, evOp, evPlain, evVal, evMem, St.eval, St.put, St.get, constV, List.set, lenV, sliceOf, arrayOf, fieldsOf, normOf, norm, firstRegion, look, maskFrom, evBin, evIndexS, evLoad, evVar, evStore, evFieldAddr, nameOf, St.alloc, St.drop, killL, kill, killAll, killObs, killOb, upd, cells?, part, retag, retagL, putIn, refFree, refFreeL, isNew, isNewL, Ty.isAgg, splice, idsL, ids, idsLL, reach, depth, St.dropL, resultsV, resultV, ↓reduceIte, Nat.reduceBEq, Nat.reduceAdd, Nat.reduceSub, Nat.reduceMul, Nat.reduceEqDiff, Nat.reduceLeDiff, Nat.reduceLT, effOf, effMem, effStore, effCall, effVar, effLit, effMake, effApp, Eff.ap, lend, evLit, evMake, evNil, freeze, onto, dropO, elemsV, sized, evCmp, eqT, eqG, minV, evUn, evField, evExtract, evIndexA, evIndexV, evSlice, optInt, fillV, placeOf, thawed, del, isNilSlice, plain, plainL, cellsJ, junkOk, St.with, setSlots, setObs, wantedD, seqOf, noRange, setAll, Array.size, te, einl, inls]
        | false => simp (maxSteps := 1000000) (implicitDefEqProofs := false) only [w1, e0, g1, g2, g3, g4, g5, g6, h2, Int.natCast_nonneg, Int.toNat_natCast, List.getElem?_map, encRun, c1, hlt, hok, evRegion_st, Try.ntmps77, Try.results77, efc77, fc77, hi, ss, List.replicate, evOp, evPlain, evVal, evMem, St.eval, St.put, St.get, constV, List.set, lenV, sliceOf, arrayOf, fieldsOf, normOf, norm, firstRegion, look, maskFrom, evBin, evIndexS, evLoad, evVar, evStore, evFieldAddr, nameOf, St.alloc, St.drop, killL, kill, killAll, killObs, killOb, upd, cells?, part, retag, retagL, putIn, refFree, refFreeL, isNew, isNewL, Ty.isAgg, splice, idsL, ids, idsLL, reach, depth, St.dropL, resultsV, resultV, ↓reduceIte, Nat.reduceBEq, Nat.reduceAdd, Nat.reduceSub, Nat.reduceMul, Nat.reduceEqDiff, Nat.reduceLeDiff, Nat.reduceLT, effOf, effMem, effStore, effCall, effVar, effLit, effMake, effApp, Eff.ap, lend, evLit, evMake, evNil, freeze, onto, dropO, elemsV, sized, evCmp, eqT, eqG, minV, evUn, evField, evExtract, evIndexA, evIndexV, evSlice, optInt, fillV, placeOf, thawed, del, isNilSlice, plain, plainL, cellsJ, junkOk, St.with, setSlots, setObs, wantedD, seqOf, noRange, setAll, Array.size, te, einl, inls]
      · have hle : decide (x.len ≤ r.len) = true := by simp; omega
        rw [hle] at hi
        simp only [Bool.true_and] at hi
        have hnext : (pre.isEmpty || post.isEmpty || decide (r.len = x.len)) = true → occI true qs ps = occI (pre ++ [x]).isEmpty (qs.drop (pre ++ [x]).length) (ps.drop (pre ++ [x]).length) := by
          intro h
          rw [h, Bool.true_and] at hi
          rw [hi, show (pre ++ [x]).isEmpty = false by simp, show (pre ++ [x]).length = pre.length + 1 by simp, ← h5]
        cases e0 : pre.isEmpty with
        | true =>
          simp (maxSteps := 1000000) (implicitDefEqProofs := false) only [w1, e0, g1, g2, g3, g4, g5, g6, h2, Int.natCast_nonneg, Int.toNat_natCast, List.getElem?_map, encRun, c1, hlt, hok, evRegion_st, ss, List.replicate, evOp, evPlain, evVal, evMem, St.eval, St.put, St.get, constV, List.set, lenV, sliceOf, arrayOf, fieldsOf, normOf, norm, firstRegion, look, maskFrom, evBin, evIndexS, evLoad, evVar, evStore, evFieldAddr, nameOf, St.alloc, St.drop, killL, kill, killAll, killObs, killOb, upd, cells?, part, retag, retagL, putIn, refFree, refFreeL, isNew, isNewL, Ty.isAgg, splice, idsL, ids, idsLL, reach, depth, St.dropL, resultsV, resultV, ↓reduceIte, Nat.reduceBEq, Nat.reduceAdd, Nat.reduceSub, Nat.reduceMul, Nat.reduceEqDiff, Nat.reduceLeDiff, Nat.reduceLT, effOf, effMem, effStore, effCall, effVar, effLit, effMake, effApp, Eff.ap, lend, evLit, evMake, evNil, freeze, onto, dropO, elemsV, sized, evCmp, eqT, eqG, minV, evUn, evField, evExtract, evIndexA, evIndexV, evSlice, optInt, fillV, placeOf, thawed, del, isNilSlice, plain, plainL, cellsJ, junkOk, St.with, setSlots, setObs, wantedD, seqOf, noRange, setAll, Array.size, te, einl, inls]
          exact ⟨(), hnext (by rw [e0]; rfl)⟩
        | false =>
          cases e1 : post.isEmpty with
          | true =>
            simp (maxSteps := 1000000) (implicitDefEqProofs := false) only [w1, e0, e1, g1, g2, g3, g4, g5, g6, h2, Int.natCast_nonneg, Int.toNat_natCast, List.getElem?_map, encRun, c1, hlt, hok, evRegion_st, ss, List.replicate, evOp, evPlain, evVal, evMem, St.eval, St.put, St.get, constV, List.set, lenV, sliceOf, arrayOf, fieldsOf, normOf, norm, firstRegion, look, maskFrom, evBin, evIndexS, evLoad, evVar, evStore, evFieldAddr, nameOf, St.alloc, St.drop, killL, kill, killAll, killObs, killOb, upd, cells?, part, retag, retagL, putIn, refFree, refFreeL, isNew, isNewL, Ty.isAgg, splice, idsL, ids, idsLL, reach, depth, St.dropL, resultsV, resultV, ↓reduceIte, Nat.reduceBEq, Nat.reduceAdd, Nat.reduceSub, Nat.reduceMul, Nat.reduceEqDiff, Nat.reduceLeDiff, Nat.reduceLT, effOf, effMem, effStore, effCall, effVar, effLit, effMake, effApp, Eff.ap, lend, evLit, evMake, evNil, freeze, onto, dropO, elemsV, sized, evCmp, eqT, eqG, minV, evUn, evField, evExtract, evIndexA, evIndexV, evSlice, optInt, fillV, placeOf, thawed, del, isNilSlice, plain, plainL, cellsJ, junkOk, St.with, setSlots, setObs, wantedD, seqOf, noRange, setAll, Array.size, te, einl, inls]
            exact ⟨(), hnext (by rw [e1]; simp)⟩
          | false =>
            cases e2 : (r.len != x.len) with
            | true =>
              have hne : decide (r.len = x.len) = false := by simpa using e2
              rw [e0, e1, hne] at hi
              simp only [Bool.false_or, Bool.false_and] at hi
              simp (maxSteps := 1000000) (implicitDefEqProofs := false) only [w1, e0, e1, e2, g1, g2, g3, g4, g5, g6, h2, Int.natCast_nonneg, Int.toNat_natCast, List.getElem?_map, encRun, c1, hlt, hok, evRegion_st, Try.ntmps77, Try.results77, efc77, fc77, hi, ss, List.replicate, evOp, evPlain, evVal, evMem, St.eval, St.put, St.get, constV, List.set, lenV, sliceOf, arrayOf, fieldsOf, normOf, norm, firstRegion, look, maskFrom, evBin, evIndexS, evLoad, evVar, evStore, evFieldAddr, nameOf, St.alloc, St.drop, killL, kill, killAll, killObs, killOb, upd, cells?, part, retag, retagL, putIn, refFree, refFreeL, isNew, isNewL, Ty.isAgg, splice, idsL, ids, idsLL, reach, depth, St.dropL, resultsV, resultV, ↓reduceIte, Nat.reduceBEq, Nat.reduceAdd, Nat.reduceSub, Nat.reduceMul, Nat.reduceEqDiff, Nat.reduceLeDiff, Nat.reduceLT, effOf, effMem, effStore, effCall, effVar, effLit, effMake, effApp, Eff.ap, lend, evLit, evMake, evNil, freeze, onto, dropO, elemsV, sized, evCmp, eqT, eqG, minV, evUn, evField, evExtract, evIndexA, evIndexV, evSlice, optInt, fillV, placeOf, thawed, del, isNilSlice, plain, plainL, cellsJ, junkOk, St.with, setSlots, setObs, wantedD, seqOf, noRange, setAll, Array.size, te, einl, inls]
            | false =>
              have hne : decide (r.len = x.len) = true := by simpa using e2
              simp (maxSteps := 1000000) (implicitDefEqProofs := false) only [w1, e0, e1, e2, g1, g2, g3, g4, g5, g6, h2, Int.natCast_nonneg, Int.toNat_natCast, List.getElem?_map, encRun, c1, hlt, hok, evRegion_st, ss, List.replicate, evOp, evPlain, evVal, evMem, St.eval, St.put, St.get, constV, List.set, lenV, sliceOf, arrayOf, fieldsOf, normOf, norm, firstRegion, look, maskFrom, evBin, evIndexS, evLoad, evVar, evStore, evFieldAddr, nameOf, St.alloc, St.drop, killL, kill, killAll, killObs, killOb, upd, cells?, part, retag, retagL, putIn, refFree, refFreeL, isNew, isNewL, Ty.isAgg, splice, idsL, ids, idsLL, reach, depth, St.dropL, resultsV, resultV, ↓reduceIte, Nat.reduceBEq, Nat.reduceAdd, Nat.reduceSub, Nat.reduceMul, Nat.reduceEqDiff, Nat.reduceLeDiff, Nat.reduceLT, effOf, effMem, effStore, effCall, effVar, effLit, effMake, effApp, Eff.ap, lend, evLit, evMake, evNil, freeze, onto, dropO, elemsV, sized, evCmp, eqT, eqG, minV, evUn, evField, evExtract, evIndexA, evIndexV, evSlice, optInt, fillV, placeOf, thawed, del, isNilSlice, plain, plainL, cellsJ, junkOk, St.with, setSlots, setObs, wantedD, seqOf, noRange, setAll, Array.size, te, einl, inls]
              exact ⟨(), hnext (by rw [hne]; simp)⟩
    · rw [decide_eq_false hm] at c1 hi
      rw [Bool.false_and] at hi
      cases e0 : pre.isEmpty with
      | true => simp (maxSteps := 1000000) (implicitDefEqProofs := false) only [w1, e0, g1, g2, g3, g4, g5, g6, h2, Int.natCast_nonneg, Int.toNat_natCast, List.getElem?_map, encRun, c1, hok, evRegion_st, Try.ntmps77, Try.results77, efc77, fc77, hi, ss, List.replicate, evOp, evPlain, evVal, evMem, St.eval, St.put, St.get, constV, List.set, lenV, sliceOf, arrayOf, fieldsOf, normOf, norm, firstRegion, look, maskFrom, evBin, evIndexS, evLoad, evVar, evStore, evFieldAddr, nameOf, St.alloc, St.drop, killL, kill, killAll, killObs, killOb, upd, cells?, part, retag, retagL, putIn, refFree, refFreeL, isNew, isNewL, Ty.isAgg, splice, idsL, ids, idsLL, reach, depth, St.dropL, resultsV, resultV, ↓reduceIte, Nat.reduceBEq, Nat.reduceAdd, Nat.reduceSub, Nat.reduceMul, Nat.reduceEqDiff, Nat.reduceLeDiff, Nat.reduceLT, effOf, effMem, effStore, effCall, effVar, effLit, effMake, effApp, Eff.ap, lend, evLit, evMake, evNil, freeze, onto, dropO, elemsV, sized, evCmp, eqT, eqG, minV, evUn, evField, evExtract, evIndexA, evIndexV, evSlice, optInt, fillV, placeOf, thawed, del, isNilSlice, plain, plainL, cellsJ, junkOk, St.with, setSlots, setObs, wantedD, seqOf, noRange, setAll, Array.size, te, einl, inls]
      | false => simp (maxSteps := 1000000) (implicitDefEqProofs := false) only [w1, e0, g1, g2, g3, g4, g5, g6, h2, Int.natCast_nonneg, Int.toNat_natCast, List.getElem?_map, encRun, c1, hok, evRegion_st, Try.ntmps77, Try.results77, efc77, fc77, hi, ss, List.replicate, evOp, evPlain, evVal, evMem, St.eval, St.put, St.get, constV, List.set, lenV, sliceOf, arrayOf, fieldsOf, normOf, norm, firstRegion, look, maskFrom, evBin, evIndexS, evLoad, evVar, evStore, evFieldAddr, nameOf, St.alloc, St.drop, killL, kill, killAll, killObs, killOb, upd, cells?, part, retag, retagL, putIn, refFree, refFreeL, isNew, isNewL, Ty.isAgg, splice, idsL, ids, idsLL, reach, depth, St.dropL, resultsV, resultV, ↓reduceIte, Nat.reduceBEq, Nat.reduceAdd, Nat.reduceSub, Nat.reduceMul, Nat.reduceEqDiff, Nat.reduceLeDiff, Nat.reduceLT, effOf, effMem, effStore, effCall, effVar, effLit, effMake, effApp, Eff.ap, lend, evLit, evMake, evNil, freeze, onto, dropO, elemsV, sized, evCmp, eqT, eqG, minV, evUn, evField, evExtract, evIndexA, evIndexV, evSlice, optInt, fillV, placeOf, thawed, del, isNilSlice, plain, plainL, cellsJ, junkOk, St.with, setSlots, setObs, wantedD, seqOf, noRange, setAll, Array.size, te, einl, inls]

end Go.AM.A
end

section
namespace Go.AM.A
open Go Go.Proofs

theorem drop_at {pre post : List Run} (h : Okay pre) {j : Nat} (hj : total pre ≤ (j : Int)) : (expand (pre ++ post)).drop j = (expand post).drop ((j : Int) - total pre).toNat := by
  have h1 := expand_len h
  rw [expand_app, List.drop_append, List.drop_of_length_le (by omega), List.nil_append, show j - (expand pre).length = ((j : Int) - total pre).toNat by omega]

theorem scan_no {pre post : List Run} {q r : Run} {qs : List Run} (h1 : Okay (pre ++ r :: post)) (n1 : Normal (r :: post)) (h2 : Okay (q :: qs)) (n2 : Normal (q :: qs)) (hi : ∀ j : Nat, (j : Int) < total pre → ¬ Occ (expand (pre ++ r :: post)) (expand (q :: qs)) j)
    (h : occI true (q :: qs) (r :: post) = false) : ∀ j : Nat, (j : Int) < total (pre ++ [r]) → ¬ Occ (expand (pre ++ r :: post)) (expand (q :: qs)) j := by
  intro j hj
  by_cases hlt : (j : Int) < total pre
  · exact hi j hlt
  · have h3 := okay_app h1
    rw [total_app, total_cons, total_nil] at hj
    rintro ⟨ho, _⟩
    rw [drop_at h3.1 (by omega)] at ho
    exact occ_never (okay_lens h2) (okay_lens h3.2) n2 n1 h _ (by omega) ho

theorem scan_yes {pre post : List Run} {q r : Run} {qs : List Run} (h1 : Okay (pre ++ r :: post)) (n1 : Normal (r :: post)) (h2 : Okay (q :: qs)) (n2 : Normal (q :: qs)) (hi : ∀ j : Nat, (j : Int) < total pre → ¬ Occ (expand (pre ++ r :: post)) (expand (q :: qs)) j)
    (h : occI true (q :: qs) (r :: post) = true) : First (expand (pre ++ r :: post)) (expand (q :: qs)) (total pre + shift r q qs) true := by
  have h3 := okay_app h1
  have h5 := okay_nonneg h3.1
  obtain ⟨o1, o2, o3, o4⟩ := occ_first (okay_lens h2) (okay_lens h3.2) n2 n1 h
  refine Or.inl ⟨rfl, (total pre + shift r q qs).toNat, by omega, ⟨?_, ?_⟩, fun j hj => ?_⟩
  · rw [drop_at h3.1 (by omega), show (((total pre + shift r q qs).toNat : Nat) : Int) - total pre = shift r q qs by omega]
    exact o3
  · have := expand_len h1
    rw [total_app, total_cons] at this
    have := okay_nonneg (okay_app (pre := [r]) h3.2).2
    omega
  · by_cases hlt : (j : Int) < total pre
    · exact hi j hlt
    · rintro ⟨ho, _⟩
      rw [drop_at h3.1 (by omega)] at ho
      exact o4 _ (by omega) ho

theorem scan_end {js ks : List Run} (h1 : Okay js) (h2 : Okay ks) (hk : ks ≠ []) (hi : ∀ j : Nat, (j : Int) < total js → ¬ Occ (expand js) (expand ks) j) : First (expand js) (expand ks) 0 false := by
  refine Or.inr ⟨rfl, rfl, fun j ho => ?_⟩
  have h3 := expand_ne (okay_lens h2) hk
  have h4 := occ_len ho
  have h5 := expand_len h1
  exact hi j (by omega) ho

theorem first_nil (ms : List Mk) : First ms [] 0 true := Or.inl ⟨rfl, 0, rfl, ⟨List.nil_prefix, Nat.zero_le _⟩, fun j hj => by omega⟩

def encFind (x : Int × Bool × Int) : V := .tup [.int .i64 x.1, .bool x.2.1, .int .i64 x.2.2]
def findM (xs ys : List Run) : Int × Bool × Int := if both xs ys = 0 then ((findR (expand xs) (expand ys)).1, (findR (expand xs) (expand ys)).2, 0) else (0, false, both xs ys)

theorem normal_drop : ∀ (pre : List Run) {post : List Run}, Normal (pre ++ post) → Normal post
  | [], _, h => h
  | _ :: pre, _, h => normal_drop pre (normal_tail h)

theorem okT37 : okCode (Try.f37.body.getD .skip) = true := by decide +kernel

set_option maxHeartbeats 4000000 in
theorem c37 (xs ys : List Run) (hn : xs.length ≤ 100000) (hm : ys.length ≤ 100000) : (orcω E X0).call 37 [.sl false (xs.map encRun), .sl false (ys.map encRun)] = some (encFind (findM xs ys)) := by
  refine call_of rfl fn37 rfl ?_
  have hok := okT37
  simp only [Try.f37, Option.getD_some, okCode, Bool.and_eq_true, Bool.and_true, Bool.true_and] at hok
  have h1 := c65 false false xs ys (by omega) (by omega)
  by_cases hv : both xs ys = 0
  · obtain ⟨v1, v2⟩ := both_zero hv
    have o1 := (valid_okay v1).1
    have o2 := (valid_okay v2).1
    have h2 := c75 false xs (by omega)
    have h3 := c75 false ys (by omega)
    rw [hv] at h1
    simp only [findM, if_pos hv]
    obtain ⟨n1, n2, n3, n4, _⟩ := joined_normal o1
    obtain ⟨m1, m2, m3, m4, _⟩ := joined_normal o2
    rw [← n2, ← m2]
    generalize joinedL xs = js at *
    generalize joinedL ys = ks at *
    cases ks with
    | nil =>
      rw [expand_nil, first_find (first_nil _)]
      simp (maxSteps := 1000000) (implicitDefEqProofs := false) only [Try.ntmps37, Try.results37, efc37, fc37, h1, h2, h3, bne_self_eq_false, beq_self_eq_true, encFind, ss, List.replicate, evOp, evPlain, evVal, evMem, St.eval, St.put, St.get, constV, List.set, lenV, sliceOf, arrayOf, fieldsOf, normOf, norm, firstRegion, look, maskFrom, evBin, evIndexS, evLoad, evVar, evStore, evFieldAddr, nameOf, St.alloc, St.drop, killL, kill, killAll, killObs, killOb, upd, cells?, part, retag, retagL, putIn, refFree, refFreeL, isNew, isNewL, Ty.isAgg, splice, idsL, ids, idsLL, reach, depth, St.dropL, resultsV, resultV, ↓reduceIte, Nat.reduceBEq, Nat.reduceAdd, Nat.reduceSub, Nat.reduceMul, Nat.reduceEqDiff, Nat.reduceLeDiff, Nat.reduceLT, effOf, effMem, effStore, effCall, effVar, effLit, effMake, effApp, Eff.ap, lend, evLit, evMake, evNil, freeze, onto, dropO, elemsV, sized, evCmp, eqT, eqG, minV, evUn, evField, evExtract, evIndexA, evIndexV, evSlice, optInt, fillV, placeOf, thawed, del, isNilSlice, plain, plainL, cellsJ, junkOk, St.with, setSlots, setObs, wantedD, seqOf, noRange, setAll, Array.size, te, einl, inls]
    | cons q qs =>
      have a0 : (((qs.length + 1 : Nat) : Int) == 0) = false := by simp; omega
      simp (maxSteps := 1000000) (implicitDefEqProofs := false) only [Try.ntmps37, Try.results37, efc37, fc37, h1, h2, h3, bne_self_eq_false, beq_self_eq_true, encFind, a0, ss, List.replicate, evOp, evPlain, evVal, evMem, St.eval, St.put, St.get, constV, List.set, lenV, sliceOf, arrayOf, fieldsOf, normOf, norm, firstRegion, look, maskFrom, evBin, evIndexS, evLoad, evVar, evStore, evFieldAddr, nameOf, St.alloc, St.drop, killL, kill, killAll, killObs, killOb, upd, cells?, part, retag, retagL, putIn, refFree, refFreeL, isNew, isNewL, Ty.isAgg, splice, idsL, ids, idsLL, reach, depth, St.dropL, resultsV, resultV, ↓reduceIte, Nat.reduceBEq, Nat.reduceAdd, Nat.reduceSub, Nat.reduceMul, Nat.reduceEqDiff, Nat.reduceLeDiff, Nat.reduceLT, effOf, effMem, effStore, effCall, effVar, effLit, effMake, effApp, Eff.ap, lend, evLit, evMake, evNil, freeze, onto, dropO, elemsV, sized, evCmp, eqT, eqG, minV, evUn, evField, evExtract, evIndexA, evIndexV, evSlice, optInt, fillV, placeOf, thawed, del, isNilSlice, plain, plainL, cellsJ, junkOk, St.with, setSlots, setObs, wantedD, seqOf, noRange, setAll, Array.size, te, einl, inls]
      generalize hr : loopAt _ _ _ _ _ _ = r; revert r
      refine loop_list js (fun pre _ => [(25, .int .i64 pre.length)]) (fun _ _ => []) (fun pre (_ : Unit) => ∀ j : Nat, (j : Int) < total pre → ¬ Occ (expand js) (expand (q :: qs)) j) () (by omega) (by simp (maxSteps := 1000000) (implicitDefEqProofs := false) only [ss, List.replicate, evOp, evPlain, evVal, evMem, St.eval, St.put, St.get, constV, List.set, lenV, sliceOf, arrayOf, fieldsOf, normOf, norm, firstRegion, look, maskFrom, evBin, evIndexS, evLoad, evVar, evStore, evFieldAddr, nameOf, St.alloc, St.drop, killL, kill, killAll, killObs, killOb, upd, cells?, part, retag, retagL, putIn, refFree, refFreeL, isNew, isNewL, Ty.isAgg, splice, idsL, ids, idsLL, reach, depth, St.dropL, resultsV, resultV, ↓reduceIte, Nat.reduceBEq, Nat.reduceAdd, Nat.reduceSub, Nat.reduceMul, Nat.reduceEqDiff, Nat.reduceLeDiff, Nat.reduceLT, effOf, effMem, effStore, effCall, effVar, effLit, effMake, effApp, Eff.ap, lend, evLit, evMake, evNil, freeze, onto, dropO, elemsV, sized, evCmp, eqT, eqG, minV, evUn, evField, evExtract, evIndexA, evIndexV, evSlice, optInt, fillV, placeOf, thawed, del, isNilSlice, plain, plainL, cellsJ, junkOk, St.with, setSlots, setObs, wantedD, seqOf, noRange, setAll, Array.size, te, einl, inls]) (fun j hj => by rw [total_nil] at hj; omega) (fun _ hi => ?_) (fun pre x post _ hp hi g1 g2 g3 g4 => ?_)
      · rw [first_find (scan_end n3 m3 (by simp) hi)]
        simp (maxSteps := 1000000) (implicitDefEqProofs := false) only [Int.lt_irrefl, Try.ntmps37, Try.results37, efc37, fc37, encFind, ss, List.replicate, evOp, evPlain, evVal, evMem, St.eval, St.put, St.get, constV, List.set, lenV, sliceOf, arrayOf, fieldsOf, normOf, norm, firstRegion, look, maskFrom, evBin, evIndexS, evLoad, evVar, evStore, evFieldAddr, nameOf, St.alloc, St.drop, killL, kill, killAll, killObs, killOb, upd, cells?, part, retag, retagL, putIn, refFree, refFreeL, isNew, isNewL, Ty.isAgg, splice, idsL, ids, idsLL, reach, depth, St.dropL, resultsV, resultV, ↓reduceIte, Nat.reduceBEq, Nat.reduceAdd, Nat.reduceSub, Nat.reduceMul, Nat.reduceEqDiff, Nat.reduceLeDiff, Nat.reduceLT, effOf, effMem, effStore, effCall, effVar, effLit, effMake, effApp, Eff.ap, lend, evLit, evMake, evNil, freeze, onto, dropO, elemsV, sized, evCmp, eqT, eqG, minV, evUn, evField, evExtract, evIndexA, evIndexV, evSlice, optInt, fillV, placeOf, thawed, del, isNilSlice, plain, plainL, cellsJ, junkOk, St.with, setSlots, setObs, wantedD, seqOf, noRange, setAll, Array.size, te, einl, inls]
      · have p1 := c77 (js.drop pre.length) (q :: qs) (by simp; omega) (by omega)
        have p2 := c61 false (js.take pre.length) (by simp; omega)
        have e1 : js.drop pre.length = x :: post := by rw [hp]; simp
        have e2 : js.take pre.length = pre := by rw [hp]; simp
        have hj := hp ▸ n3
        have w0 := okay_app hj
        have w3 := okay_nonneg w0.1
        have w4 := okay_lens n3 x (by rw [hp]; simp)
        have w5 := okay_lens m3 q List.mem_cons_self
        have w6 := w0.1.2
        have nx := normal_drop pre (hp ▸ n1)
        rw [e1] at p1
        rw [e2, ln_total w0.1] at p2
        have d1 : (js.map encRun).drop pre.length = (x :: post).map encRun := by rw [← List.map_drop, e1]
        have d2 : (js.map encRun).take pre.length = pre.map encRun := by rw [← List.map_take, e2]
        have d3 : ((x :: post).map encRun).take ((js.length : Int) - pre.length).toNat = (x :: post).map encRun := by
          apply List.take_of_length_le
          have := congrArg List.length hp
          simp at this ⊢; omega
        have d4 : ((pre.length : Int) ≤ js.length ∧ (js.length : Int) ≤ js.length) = True := by simp; omega
        have d5 : sized 4 (js.map encRun) = true := sized_runs js
        have d6 : ((0 : Int) ≤ pre.length ∧ (pre.length : Int) ≤ js.length) = True := by simp; omega
        have d7 : ((pre.length : Int) - 0).toNat = pre.length := by omega
        have d8 : ((pre.length : Int) ≤ js.length) = True := by simp; omega
        generalize (x :: post).map encRun = D at *
        rw [hp] at hi
        cases ho : occI true (q :: qs) (x :: post) with
        | false =>
          have hno := scan_no hj nx m3 m1 hi ho
          rw [ho] at p1
          simp only [List.map_cons, encRun] at p1
          rw [← hp] at hno
          simp (maxSteps := 1000000) (implicitDefEqProofs := false) only [g1, g2, g3, g4, Int.natCast_nonneg, Int.toNat_natCast, List.getElem?_map, encRun, p1, p2, d1, d2, d3, d4, d5, d6, d7, d8, List.drop_zero, Int.toNat_zero, Int.le_refl, hok, evRegion_st, ss, List.replicate, evOp, evPlain, evVal, evMem, St.eval, St.put, St.get, constV, List.set, lenV, sliceOf, arrayOf, fieldsOf, normOf, norm, firstRegion, look, maskFrom, evBin, evIndexS, evLoad, evVar, evStore, evFieldAddr, nameOf, St.alloc, St.drop, killL, kill, killAll, killObs, killOb, upd, cells?, part, retag, retagL, putIn, refFree, refFreeL, isNew, isNewL, Ty.isAgg, splice, idsL, ids, idsLL, reach, depth, St.dropL, resultsV, resultV, ↓reduceIte, Nat.reduceBEq, Nat.reduceAdd, Nat.reduceSub, Nat.reduceMul, Nat.reduceEqDiff, Nat.reduceLeDiff, Nat.reduceLT, effOf, effMem, effStore, effCall, effVar, effLit, effMake, effApp, Eff.ap, lend, evLit, evMake, evNil, freeze, onto, dropO, elemsV, sized, evCmp, eqT, eqG, minV, evUn, evField, evExtract, evIndexA, evIndexV, evSlice, optInt, fillV, placeOf, thawed, del, isNilSlice, plain, plainL, cellsJ, junkOk, St.with, setSlots, setObs, wantedD, seqOf, noRange, setAll, Array.size, te, einl, inls]
          exact ⟨(), hno⟩
        | true =>
          have hye := scan_yes hj nx m3 m1 hi ho
          rw [ho] at p1
          simp only [List.map_cons, encRun] at p1
          rw [← hp] at hye
          rw [first_find hye]
          have u1 : IntKind.i64.wrap (x.len - q.len) = x.len - q.len := wrap_in (by omega)
          have u2 : IntKind.i64.wrap (total pre + (x.len - q.len)) = total pre + (x.len - q.len) := wrap_in (by omega)
          cases qs with
          | nil =>
            have u3 : shift x q [] = 0 := rfl
            simp only [List.map_nil] at p1
            have u5 : ((1 : Int) < ((1 : Nat) : Int)) = False := by simp
            simp (maxSteps := 1000000) (implicitDefEqProofs := false) only [u5, g1, g2, g3, g4, Int.natCast_nonneg, Int.toNat_natCast, List.getElem?_map, encRun, p1, p2, d1, d2, d3, d4, d5, d6, d7, d8, List.drop_zero, Int.toNat_zero, Int.le_refl, hok, evRegion_st, Try.ntmps37, Try.results37, efc37, fc37, encFind, u1, u2, u3, Int.add_zero, ss, List.replicate, evOp, evPlain, evVal, evMem, St.eval, St.put, St.get, constV, List.set, lenV, sliceOf, arrayOf, fieldsOf, normOf, norm, firstRegion, look, maskFrom, evBin, evIndexS, evLoad, evVar, evStore, evFieldAddr, nameOf, St.alloc, St.drop, killL, kill, killAll, killObs, killOb, upd, cells?, part, retag, retagL, putIn, refFree, refFreeL, isNew, isNewL, Ty.isAgg, splice, idsL, ids, idsLL, reach, depth, St.dropL, resultsV, resultV, ↓reduceIte, Nat.reduceBEq, Nat.reduceAdd, Nat.reduceSub, Nat.reduceMul, Nat.reduceEqDiff, Nat.reduceLeDiff, Nat.reduceLT, effOf, effMem, effStore, effCall, effVar, effLit, effMake, effApp, Eff.ap, lend, evLit, evMake, evNil, freeze, onto, dropO, elemsV, sized, evCmp, eqT, eqG, minV, evUn, evField, evExtract, evIndexA, evIndexV, evSlice, optInt, fillV, placeOf, thawed, del, isNilSlice, plain, plainL, cellsJ, junkOk, St.with, setSlots, setObs, wantedD, seqOf, noRange, setAll, Array.size, te, einl, inls]
          | cons q' qs =>
            have u3 : shift x q (q' :: qs) = x.len - q.len := rfl
            simp only [List.map_cons, encRun] at p1
            have u4 : (1 : Int) < ((qs.length + 1 + 1 : Nat) : Int) := by omega
            simp (maxSteps := 1000000) (implicitDefEqProofs := false) only [g1, g2, g3, g4, Int.natCast_nonneg, Int.toNat_natCast, List.getElem?_map, encRun, p1, p2, d1, d2, d3, d4, d5, d6, d7, d8, List.drop_zero, Int.toNat_zero, Int.le_refl, hok, evRegion_st, Try.ntmps37, Try.results37, efc37, fc37, encFind, u1, u2, u3, u4, ss, List.replicate, evOp, evPlain, evVal, evMem, St.eval, St.put, St.get, constV, List.set, lenV, sliceOf, arrayOf, fieldsOf, normOf, norm, firstRegion, look, maskFrom, evBin, evIndexS, evLoad, evVar, evStore, evFieldAddr, nameOf, St.alloc, St.drop, killL, kill, killAll, killObs, killOb, upd, cells?, part, retag, retagL, putIn, refFree, refFreeL, isNew, isNewL, Ty.isAgg, splice, idsL, ids, idsLL, reach, depth, St.dropL, resultsV, resultV, ↓reduceIte, Nat.reduceBEq, Nat.reduceAdd, Nat.reduceSub, Nat.reduceMul, Nat.reduceEqDiff, Nat.reduceLeDiff, Nat.reduceLT, effOf, effMem, effStore, effCall, effVar, effLit, effMake, effApp, Eff.ap, lend, evLit, evMake, evNil, freeze, onto, dropO, elemsV, sized, evCmp, eqT, eqG, minV, evUn, evField, evExtract, evIndexA, evIndexV, evSlice, optInt, fillV, placeOf, thawed, del, isNilSlice, plain, plainL, cellsJ, junkOk, St.with, setSlots, setObs, wantedD, seqOf, noRange, setAll, Array.size, te, einl, inls]
  · have hv' : (both xs ys != 0) = true := by simp [hv]
    simp (maxSteps := 1000000) (implicitDefEqProofs := false) only [Try.ntmps37, Try.results37, efc37, fc37, h1, hv', ss, List.replicate, evOp, evPlain, evVal, evMem, St.eval, St.put, St.get, constV, List.set, lenV, sliceOf, arrayOf, fieldsOf, normOf, norm, firstRegion, look, maskFrom, evBin, evIndexS, evLoad, evVar, evStore, evFieldAddr, nameOf, St.alloc, St.drop, killL, kill, killAll, killObs, killOb, upd, cells?, part, retag, retagL, putIn, refFree, refFreeL, isNew, isNewL, Ty.isAgg, splice, idsL, ids, idsLL, reach, depth, St.dropL, resultsV, resultV, ↓reduceIte, Nat.reduceBEq, Nat.reduceAdd, Nat.reduceSub, Nat.reduceMul, Nat.reduceEqDiff, Nat.reduceLeDiff, Nat.reduceLT, effOf, effMem, effStore, effCall, effVar, effLit, effMake, effApp, Eff.ap, lend, evLit, evMake, evNil, freeze, onto, dropO, elemsV, sized, evCmp, eqT, eqG, minV, evUn, evField, evExtract, evIndexA, evIndexV, evSlice, optInt, fillV, placeOf, thawed, del, isNilSlice, plain, plainL, cellsJ, junkOk, St.with, setSlots, setObs, wantedD, seqOf, noRange, setAll, Array.size, te, einl, inls]
    simp [encFind, findM, hv]

end Go.AM.A
end

section
namespace Go.AM.A
open Go Go.Proofs

theorem locate : ∀ {js : List Run} {j : Int}, (∀ r ∈ js, 1 ≤ r.len) → 0 ≤ j → j < total js → ∃ pre r post, js = pre ++ r :: post ∧ total pre ≤ j ∧ j < total pre + r.len
  | [], j, _, h1, h2 => by rw [total_nil] at h2; omega
  | r :: js, j, h, h1, h2 => by
    rw [total_cons] at h2
    by_cases hj : j < r.len
    · exact ⟨[], r, js, rfl, by rw [total_nil]; omega, by rw [total_nil]; omega⟩
    · obtain ⟨pre, x, post, e, a, b⟩ := locate (js := js) (j := j - r.len) (fun x hx => h x (List.mem_cons_of_mem _ hx)) (by omega) (by omega)
      exact ⟨r :: pre, x, post, by rw [e]; rfl, by rw [total_cons]; omega, by rw [total_cons]; omega⟩

theorem least_cand {js ks : List Run} (h1 : Okay js) (n1 : Normal js) (h2 : Okay ks) (n2 : Normal ks) {j : Nat} (ho : Occ (expand js) (expand ks) j) (hl : ∀ i, i < j → ¬ Occ (expand js) (expand ks) i) :
    ∃ i k, i ≤ js.length ∧ k ≤ ks.length ∧ (j : Int) = total (js.take i) - total (ks.take k) := by
  cases ks with
  | nil =>
    have : j = 0 := by
      cases j with
      | zero => rfl
      | succ j => exact absurd ⟨List.nil_prefix, Nat.zero_le _⟩ (hl 0 (by omega))
    subst this
    exact ⟨0, 0, Nat.zero_le _, Nat.zero_le _, by simp [total]⟩
  | cons q qs =>
    have h3 := expand_ne (okay_lens h2) (by simp)
    have h4 := occ_len ho
    have h5 := expand_len h1
    obtain ⟨pre, r, post, e, a, b⟩ := locate (j := (j : Int)) h1.1 (by omega) (by omega)
    subst e
    have h6 := okay_app h1
    have nx := normal_drop pre n1
    have h7 := ho.1
    have h8 := okay_lens h6.2 r List.mem_cons_self
    rw [drop_at h6.1 a, occ_run (okay_lens h2) (okay_lens h6.2) n2 nx (by omega)] at h7
    obtain ⟨c1, c2, c3⟩ := h7
    by_cases hq : qs = []
    · refine ⟨pre.length, 0, by simp, by simp, ?_⟩
      rw [List.take_left, List.take_zero, total_nil]
      have hp := okay_nonneg h6.1
      by_cases hd : (j : Int) = total pre
      · omega
      · refine absurd ⟨?_, ?_⟩ (hl (total pre).toNat (by omega))
        · rw [drop_at h6.1 (by omega), occ_run (okay_lens h2) (okay_lens h6.2) n2 nx (by omega)]
          rw [if_pos hq] at c2 ⊢
          exact ⟨c1, by omega, c3⟩
        · omega
    · rw [if_neg hq] at c2
      refine ⟨pre.length + 1, 1, by simp, by simp, ?_⟩
      rw [show (pre ++ r :: post).take (pre.length + 1) = pre ++ [r] by rw [List.take_append, List.take_of_length_le (by omega), show pre.length + 1 - pre.length = 1 by omega]; rfl, total_app, total_cons, total_nil]
      simp only [List.take_succ_cons, List.take_zero, total_cons, total_nil]
      omega

structure Good (js ks : List Run) (i k : Nat) (b : Int) (f : Bool) : Prop where
  yes : f = true → ∃ a : Nat, b = a ∧ Occ (expand js) (expand ks) a
  no : f = false → b = 0
  all : ∀ i' k', i' ≤ js.length → k' ≤ ks.length → (i' < i ∨ i' = i ∧ k' < k) → ∀ a : Nat, (a : Int) = total (js.take i') - total (ks.take k') → Occ (expand js) (expand ks) a → f = true ∧ b ≤ a

theorem good_row {js ks : List Run} {i : Nat} {b : Int} {f : Bool} (h : Good js ks i (ks.length + 1) b f) : Good js ks (i + 1) 0 b f :=
  ⟨h.yes, h.no, fun i' k' h1 h2 h3 => h.all i' k' h1 h2 (by omega)⟩

theorem good_yes {js ks : List Run} {i k : Nat} {b a : Int} {f : Bool} (h : Good js ks i k b f) (ha : a = total (js.take i) - total (ks.take k)) (h0 : 0 ≤ a) (ho : Occ (expand js) (expand ks) a.toNat) (hb : f = false ∨ a < b) : Good js ks i (k + 1) a true := by
  refine ⟨fun _ => ⟨a.toNat, by omega, ho⟩, fun h => (by cases h), fun i' k' h1 h2 h3 c hc hco => ⟨rfl, ?_⟩⟩
  by_cases hlast : i' = i ∧ k' = k
  · obtain ⟨rfl, rfl⟩ := hlast; omega
  · have := h.all i' k' h1 h2 (by omega) c hc hco
    rcases hb with rfl | hb
    · exact absurd this.1 (by simp)
    · omega

theorem good_no {js ks : List Run} {i k : Nat} {b : Int} {f : Bool} (h : Good js ks i k b f) (hn : ∀ a : Nat, (a : Int) = total (js.take i) - total (ks.take k) → Occ (expand js) (expand ks) a → f = true ∧ b ≤ a) : Good js ks i (k + 1) b f := by
  refine ⟨h.yes, h.no, fun i' k' h1 h2 h3 c hc hco => ?_⟩
  by_cases hlast : i' = i ∧ k' = k
  · obtain ⟨rfl, rfl⟩ := hlast; exact hn c hc hco
  · exact h.all i' k' h1 h2 (by omega) c hc hco

theorem least_occ {ms p : List Mk} : ∀ {j : Nat}, Occ ms p j → ∃ i, i ≤ j ∧ Occ ms p i ∧ ∀ l, l < i → ¬ Occ ms p l := by
  intro j
  induction j using Nat.strongRecOn with
  | ind j ih =>
    intro h
    by_cases hl : ∃ l, l < j ∧ Occ ms p l
    · obtain ⟨l, h1, h2⟩ := hl
      obtain ⟨i, h3, h4⟩ := ih l h1 h2
      exact ⟨i, by omega, h4⟩
    · exact ⟨j, Nat.le_refl _, h, fun l h1 h2 => hl ⟨l, h1, h2⟩⟩

theorem good_end {js ks : List Run} {b : Int} {f : Bool} (h1 : Okay js) (n1 : Normal js) (h2 : Okay ks) (n2 : Normal ks) (h : Good js ks (js.length + 1) 0 b f) : First (expand js) (expand ks) b f := by
  have key : ∀ j, Occ (expand js) (expand ks) j → f = true ∧ b ≤ j := by
    intro j ho
    obtain ⟨i, a1, a2, a3⟩ := least_occ ho
    obtain ⟨x, y, c1, c2, c3⟩ := least_cand h1 n1 h2 n2 a2 a3
    have := h.all x y c1 c2 (by omega) i c3 a2
    exact ⟨this.1, by omega⟩
  cases f with
  | true =>
    obtain ⟨a, e, ho⟩ := h.yes rfl
    exact Or.inl ⟨rfl, a, e, ho, fun j hj hoj => by have := (key j hoj).2; omega⟩
  | false => exact Or.inr ⟨rfl, h.no rfl, fun j hoj => by have := (key j hoj).1; cases this⟩

theorem good_zero (js ks : List Run) : Good js ks 0 0 0 false := ⟨fun h => (by cases h), fun _ => rfl, fun i' k' _ _ h => by omega⟩

theorem cut_occ {js ks : List Run} (h1 : Okay js) (h2 : Okay ks) (hk : ks = rle (expand ks)) {a : Int} (h3 : 0 ≤ a) (h4 : a + total ks ≤ total js) :
    joinedL (cutL a (a + total ks) 0 js) = ks ↔ Occ (expand js) (expand ks) a.toNat := by
  have c1 := cut_okay (lo := a) (hi := a + total ks) 0 h1
  have e1 := expand_len h1
  have e2 := expand_len h2
  have t1 := h1.2
  have t2 := h2.2
  rw [occ_take, joined_rle c1.1 (by have := c1.2; omega), expand_cut js 0 h1.1, Int.sub_zero, Int.sub_zero]
  rw [show (a + total ks).toNat = a.toNat + (expand ks).length by omega]
  constructor
  · intro h
    refine ⟨rle_inj ?_ (by omega) (h.trans hk), by omega⟩
    simp only [List.length_drop, List.length_take]; omega
  · rintro ⟨h, _⟩
    rw [h]; exact hk.symm

theorem total_take_in {js : List Run} (h : Okay js) (i : Nat) : 0 ≤ total (js.take i) ∧ total (js.take i) ≤ 40000000 := by
  have := okay_app (pre := js.take i) (post := js.drop i) (by rw [List.take_append_drop]; exact h)
  exact ⟨okay_nonneg this.1, this.1.2⟩

theorem total_take_next {js : List Run} {i : Nat} {x : Run} (h : js[i]? = some x) : total (js.take (i + 1)) = total (js.take i) + x.len := by
  rw [List.take_add_one, h, total_app]
  simp [total]

theorem okT38 : okCode (Try.f38.body.getD .skip) = true := by decide +kernel

set_option maxHeartbeats 8000000 in
theorem c38 (xs ys : List Run) (hn : xs.length ≤ 100000) (hm : ys.length ≤ 100000) : (orcω E X0).call 38 [.sl false (xs.map encRun), .sl false (ys.map encRun)] = some (encFind (findM xs ys)) := by
  refine call_of rfl fn38 rfl ?_
  have hok := okT38
  simp only [Try.f38, Option.getD_some, okCode, Bool.and_eq_true, Bool.and_true, Bool.true_and] at hok
  have h1 := c67 false false xs ys (by omega) (by omega)
  by_cases hv : both xs ys = 0
  · obtain ⟨v1, v2⟩ := both_zero hv
    have o1 := (valid_okay v1).1
    have o2 := (valid_okay v2).1
    have h2 := c76 false xs (by omega)
    have h3 := c76 false ys (by omega)
    rw [joinR_eq (valid_pos v1)] at h2
    rw [joinR_eq (valid_pos v2)] at h3
    rw [hv] at h1
    simp only [findM, if_pos hv]
    obtain ⟨n1, n2, n3, n4, _⟩ := joined_normal o1
    obtain ⟨m1, m2, m3, m4, _⟩ := joined_normal o2
    have hk : joinedL ys = rle (expand (joinedL ys)) := by rw [m2]; exact joined_rle o2.1 (by have := o2.2; omega)
    rw [← n2, ← m2]
    generalize joinedL xs = js at *
    generalize joinedL ys = ks at *
    have p1 := c62 false js (by omega)
    have p2 := c62 false ks (by omega)
    rw [ln_total n3] at p1
    rw [ln_total m3] at p2
    have t1 := n3.2
    have t2 := m3.2
    have t3 := okay_nonneg n3
    have t4 := okay_nonneg m3
    simp (maxSteps := 1000000) (implicitDefEqProofs := false) only [Try.ntmps38, Try.results38, efc38, fc38, h1, h2, h3, bne_self_eq_false, beq_self_eq_true, encFind, ss, List.replicate, evOp, evPlain, evVal, evMem, St.eval, St.put, St.get, constV, List.set, lenV, sliceOf, arrayOf, fieldsOf, normOf, norm, firstRegion, look, maskFrom, evBin, evIndexS, evLoad, evVar, evStore, evFieldAddr, nameOf, St.alloc, St.drop, killL, kill, killAll, killObs, killOb, upd, cells?, part, retag, retagL, putIn, refFree, refFreeL, isNew, isNewL, Ty.isAgg, splice, idsL, ids, idsLL, reach, depth, St.dropL, resultsV, resultV, ↓reduceIte, Nat.reduceBEq, Nat.reduceAdd, Nat.reduceSub, Nat.reduceMul, Nat.reduceEqDiff, Nat.reduceLeDiff, Nat.reduceLT, effOf, effMem, effStore, effCall, effVar, effLit, effMake, effApp, Eff.ap, lend, evLit, evMake, evNil, freeze, onto, dropO, elemsV, sized, evCmp, eqT, eqG, minV, evUn, evField, evExtract, evIndexA, evIndexV, evSlice, optInt, fillV, placeOf, thawed, del, isNilSlice, plain, plainL, cellsJ, junkOk, St.with, setSlots, setObs, wantedD, seqOf, noRange, setAll, Array.size, te, einl, inls]
    generalize hr : loopAt _ _ _ _ _ _ = r; revert r
    refine loop_inv (ι := { s : Nat × Int × Bool // s.1 ≤ js.length + 1 ∧ Good js ks s.1 0 s.2.1 s.2.2 }) (fun s => [(10, .int .i64 s.1.2.1), (11, .bool s.1.2.2), (12, .int .i64 (total (js.take s.1.1))), (13, .int .i64 s.1.1)]) (fun _ => []) (fun s => js.length + 1 - s.1.1) ⟨(0, 0, false), by omega, good_zero js ks⟩ (by simp (maxSteps := 1000000) (implicitDefEqProofs := false) only [List.take_zero, total_nil, ss, List.replicate, evOp, evPlain, evVal, evMem, St.eval, St.put, St.get, constV, List.set, lenV, sliceOf, arrayOf, fieldsOf, normOf, norm, firstRegion, look, maskFrom, evBin, evIndexS, evLoad, evVar, evStore, evFieldAddr, nameOf, St.alloc, St.drop, killL, kill, killAll, killObs, killOb, upd, cells?, part, retag, retagL, putIn, refFree, refFreeL, isNew, isNewL, Ty.isAgg, splice, idsL, ids, idsLL, reach, depth, St.dropL, resultsV, resultV, ↓reduceIte, Nat.reduceBEq, Nat.reduceAdd, Nat.reduceSub, Nat.reduceMul, Nat.reduceEqDiff, Nat.reduceLeDiff, Nat.reduceLT, effOf, effMem, effStore, effCall, effVar, effLit, effMake, effApp, Eff.ap, lend, evLit, evMake, evNil, freeze, onto, dropO, elemsV, sized, evCmp, eqT, eqG, minV, evUn, evField, evExtract, evIndexA, evIndexV, evSlice, optInt, fillV, placeOf, thawed, del, isNilSlice, plain, plainL, cellsJ, junkOk, St.with, setSlots, setObs, wantedD, seqOf, noRange, setAll, Array.size, te, einl, inls]) ?_
    rintro ⟨⟨i, b, f⟩, hi, hg⟩
    dsimp only at hi hg ⊢
    by_cases hlast : (i : Int) ≤ js.length
    · have ti := total_take_in n3 i
      simp (maxSteps := 1000000) (implicitDefEqProofs := false) only [hlast, ss, List.replicate, evOp, evPlain, evVal, evMem, St.eval, St.put, St.get, constV, List.set, lenV, sliceOf, arrayOf, fieldsOf, normOf, norm, firstRegion, look, maskFrom, evBin, evIndexS, evLoad, evVar, evStore, evFieldAddr, nameOf, St.alloc, St.drop, killL, kill, killAll, killObs, killOb, upd, cells?, part, retag, retagL, putIn, refFree, refFreeL, isNew, isNewL, Ty.isAgg, splice, idsL, ids, idsLL, reach, depth, St.dropL, resultsV, resultV, ↓reduceIte, Nat.reduceBEq, Nat.reduceAdd, Nat.reduceSub, Nat.reduceMul, Nat.reduceEqDiff, Nat.reduceLeDiff, Nat.reduceLT, effOf, effMem, effStore, effCall, effVar, effLit, effMake, effApp, Eff.ap, lend, evLit, evMake, evNil, freeze, onto, dropO, elemsV, sized, evCmp, eqT, eqG, minV, evUn, evField, evExtract, evIndexA, evIndexV, evSlice, optInt, fillV, placeOf, thawed, del, isNilSlice, plain, plainL, cellsJ, junkOk, St.with, setSlots, setObs, wantedD, seqOf, noRange, setAll, Array.size, te, einl, inls]
      generalize hr : loopAt _ _ _ _ _ _ = r; revert r
      refine loop_inv (ι := { s : Nat × Int × Bool // s.1 ≤ ks.length + 1 ∧ Good js ks i s.1 s.2.1 s.2.2 }) (fun s => [(10, .int .i64 s.1.2.1), (11, .bool s.1.2.2), (14, .int .i64 (total (ks.take s.1.1))), (15, .int .i64 s.1.1)]) (fun _ => []) (fun s => ks.length + 1 - s.1.1) ⟨(0, b, f), by omega, hg⟩ (by simp (maxSteps := 1000000) (implicitDefEqProofs := false) only [List.take_zero, total_nil, ss, List.replicate, evOp, evPlain, evVal, evMem, St.eval, St.put, St.get, constV, List.set, lenV, sliceOf, arrayOf, fieldsOf, normOf, norm, firstRegion, look, maskFrom, evBin, evIndexS, evLoad, evVar, evStore, evFieldAddr, nameOf, St.alloc, St.drop, killL, kill, killAll, killObs, killOb, upd, cells?, part, retag, retagL, putIn, refFree, refFreeL, isNew, isNewL, Ty.isAgg, splice, idsL, ids, idsLL, reach, depth, St.dropL, resultsV, resultV, ↓reduceIte, Nat.reduceBEq, Nat.reduceAdd, Nat.reduceSub, Nat.reduceMul, Nat.reduceEqDiff, Nat.reduceLeDiff, Nat.reduceLT, effOf, effMem, effStore, effCall, effVar, effLit, effMake, effApp, Eff.ap, lend, evLit, evMake, evNil, freeze, onto, dropO, elemsV, sized, evCmp, eqT, eqG, minV, evUn, evField, evExtract, evIndexA, evIndexV, evSlice, optInt, fillV, placeOf, thawed, del, isNilSlice, plain, plainL, cellsJ, junkOk, St.with, setSlots, setObs, wantedD, seqOf, noRange, setAll, Array.size, te, einl, inls]) ?_
      rintro ⟨⟨k, b, f⟩, hk', hg⟩
      dsimp only at hk' hg ⊢
      have ui : IntKind.i64.wrap ((i : Int) + 1) = ((i + 1 : Nat) : Int) := by rw [wrap_in (by omega)]; omega
      by_cases hkk : (k : Int) ≤ ks.length
      · have tk := total_take_in m3 k
        have u1 : IntKind.i64.wrap (total (js.take i) - total (ks.take k)) = total (js.take i) - total (ks.take k) := wrap_in (by omega)
        have u2 : IntKind.i64.wrap (total (js.take i) - total (ks.take k) + total ks) = total (js.take i) - total (ks.take k) + total ks := wrap_in (by omega)
        have uk : IntKind.i64.wrap ((k : Int) + 1) = ((k + 1 : Nat) : Int) := by rw [wrap_in (by omega)]; omega
        have hA : ∃ A, A = total (js.take i) - total (ks.take k) := ⟨_, rfl⟩
        obtain ⟨A, hA⟩ := hA
        have hA2 : A ≤ 40000000 ∧ -40000000 ≤ A := by omega
        rw [← hA] at u1 u2
        have hk2 : (∃ x, (k : Int) < ks.length ∧ ks[k]? = some x ∧ IntKind.i64.wrap (total (ks.take k) + x.len) = total (ks.take (k + 1))) ∨ (¬ (k : Int) < ks.length ∧ total (ks.take (k + 1)) = total (ks.take k)) := by
          by_cases h : k < ks.length
          · have h5 : ks[k]? = some ks[k] := List.getElem?_eq_getElem h
            have h6 := total_take h5
            have h7 := total_take_in m3 (k + 1)
            exact Or.inl ⟨_, by omega, h5, by rw [wrap_in (by omega), h6]⟩
          · exact Or.inr ⟨by omega, by rw [List.take_of_length_le (by omega), List.take_of_length_le (by omega)]⟩
        have fin : ∀ b' f', Good js ks i (k + 1) b' f' → (k + 1, b', f').1 ≤ ks.length + 1 ∧ Good js ks i (k + 1, b', f').1 (k + 1, b', f').2.1 (k + 1, b', f').2.2 := fun b' f' h => ⟨by dsimp only; omega, h⟩
        have hAs := hA.symm
        by_cases q1 : 0 ≤ A
        · by_cases q2 : A + total ks ≤ total js
          · have q4 := cut_occ n3 m3 hk q1 q2
            have p3 := c72 js A (A + total ks) n3 (by omega) ⟨by omega, by omega⟩ ⟨by omega, by omega⟩
            have p4 := c76 true (cutL A (A + total ks) 0 js) (by have := cutL_len A (A + total ks) js 0; omega)
            rw [joinR_eq (fun r hr => by have := lens_cut js 0 r hr; omega)] at p4
            have p5 := c25 true false (joinedL (cutL A (A + total ks) 0 js)) ks (by have := joined_le (cutL A (A + total ks) 0 js); have := cutL_len A (A + total ks) js 0; omega)
            have p6 := c25 false false (joinedL (cutL A (A + total ks) 0 js)) ks (by have := joined_le (cutL A (A + total ks) 0 js); have := cutL_len A (A + total ks) js 0; omega)
            have p7 := c76 false (cutL A (A + total ks) 0 js) (by have := cutL_len A (A + total ks) js 0; omega)
            rw [joinR_eq (fun r hr => by have := lens_cut js 0 r hr; omega)] at p7
            cases f with
            | true =>
              by_cases q3 : A < b
              · by_cases ho : Occ (expand js) (expand ks) A.toNat
                · rw [decide_eq_true (q4.2 ho)] at p5 p6
                  rcases hk2 with ⟨x, b1, b2, b3⟩ | ⟨b1, b3⟩
                  · simp (maxSteps := 1000000) (implicitDefEqProofs := false) only [u1, u2, uk, hAs, hkk, p1, p2, q1, q2, q3, p3, p4, p5, p6, p7, b1, b2, b3, Int.natCast_nonneg, Int.toNat_natCast, List.getElem?_map, encRun, hok, evRegion_st, ss, List.replicate, evOp, evPlain, evVal, evMem, St.eval, St.put, St.get, constV, List.set, lenV, sliceOf, arrayOf, fieldsOf, normOf, norm, firstRegion, look, maskFrom, evBin, evIndexS, evLoad, evVar, evStore, evFieldAddr, nameOf, St.alloc, St.drop, killL, kill, killAll, killObs, killOb, upd, cells?, part, retag, retagL, putIn, refFree, refFreeL, isNew, isNewL, Ty.isAgg, splice, idsL, ids, idsLL, reach, depth, St.dropL, resultsV, resultV, ↓reduceIte, Nat.reduceBEq, Nat.reduceAdd, Nat.reduceSub, Nat.reduceMul, Nat.reduceEqDiff, Nat.reduceLeDiff, Nat.reduceLT, effOf, effMem, effStore, effCall, effVar, effLit, effMake, effApp, Eff.ap, lend, evLit, evMake, evNil, freeze, onto, dropO, elemsV, sized, evCmp, eqT, eqG, minV, evUn, evField, evExtract, evIndexA, evIndexV, evSlice, optInt, fillV, placeOf, thawed, del, isNilSlice, plain, plainL, cellsJ, junkOk, St.with, setSlots, setObs, wantedD, seqOf, noRange, setAll, Array.size, te, einl, inls]
                    exact ⟨⟨(k + 1, A, true), fin _ _ (good_yes hg hA q1 ho (Or.inr q3))⟩, rfl, by dsimp only; omega⟩
                  · simp (maxSteps := 1000000) (implicitDefEqProofs := false) only [u1, u2, uk, hAs, hkk, p1, p2, q1, q2, q3, p3, p4, p5, p6, p7, b1, Int.natCast_nonneg, Int.toNat_natCast, List.getElem?_map, encRun, hok, evRegion_st, ss, List.replicate, evOp, evPlain, evVal, evMem, St.eval, St.put, St.get, constV, List.set, lenV, sliceOf, arrayOf, fieldsOf, normOf, norm, firstRegion, look, maskFrom, evBin, evIndexS, evLoad, evVar, evStore, evFieldAddr, nameOf, St.alloc, St.drop, killL, kill, killAll, killObs, killOb, upd, cells?, part, retag, retagL, putIn, refFree, refFreeL, isNew, isNewL, Ty.isAgg, splice, idsL, ids, idsLL, reach, depth, St.dropL, resultsV, resultV, ↓reduceIte, Nat.reduceBEq, Nat.reduceAdd, Nat.reduceSub, Nat.reduceMul, Nat.reduceEqDiff, Nat.reduceLeDiff, Nat.reduceLT, effOf, effMem, effStore, effCall, effVar, effLit, effMake, effApp, Eff.ap, lend, evLit, evMake, evNil, freeze, onto, dropO, elemsV, sized, evCmp, eqT, eqG, minV, evUn, evField, evExtract, evIndexA, evIndexV, evSlice, optInt, fillV, placeOf, thawed, del, isNilSlice, plain, plainL, cellsJ, junkOk, St.with, setSlots, setObs, wantedD, seqOf, noRange, setAll, Array.size, te, einl, inls]
                    exact ⟨⟨(k + 1, A, true), fin _ _ (good_yes hg hA q1 ho (Or.inr q3))⟩, by rw [b3], by dsimp only; omega⟩
                · rw [decide_eq_false (fun h => ho (q4.1 h))] at p5 p6
                  rcases hk2 with ⟨x, b1, b2, b3⟩ | ⟨b1, b3⟩
                  · simp (maxSteps := 1000000) (implicitDefEqProofs := false) only [u1, u2, uk, hAs, hkk, p1, p2, q1, q2, q3, p3, p4, p5, p6, p7, b1, b2, b3, Int.natCast_nonneg, Int.toNat_natCast, List.getElem?_map, encRun, hok, evRegion_st, ss, List.replicate, evOp, evPlain, evVal, evMem, St.eval, St.put, St.get, constV, List.set, lenV, sliceOf, arrayOf, fieldsOf, normOf, norm, firstRegion, look, maskFrom, evBin, evIndexS, evLoad, evVar, evStore, evFieldAddr, nameOf, St.alloc, St.drop, killL, kill, killAll, killObs, killOb, upd, cells?, part, retag, retagL, putIn, refFree, refFreeL, isNew, isNewL, Ty.isAgg, splice, idsL, ids, idsLL, reach, depth, St.dropL, resultsV, resultV, ↓reduceIte, Nat.reduceBEq, Nat.reduceAdd, Nat.reduceSub, Nat.reduceMul, Nat.reduceEqDiff, Nat.reduceLeDiff, Nat.reduceLT, effOf, effMem, effStore, effCall, effVar, effLit, effMake, effApp, Eff.ap, lend, evLit, evMake, evNil, freeze, onto, dropO, elemsV, sized, evCmp, eqT, eqG, minV, evUn, evField, evExtract, evIndexA, evIndexV, evSlice, optInt, fillV, placeOf, thawed, del, isNilSlice, plain, plainL, cellsJ, junkOk, St.with, setSlots, setObs, wantedD, seqOf, noRange, setAll, Array.size, te, einl, inls]
                    exact ⟨⟨(k + 1, b, true), fin _ _ (good_no hg fun a ha hao => absurd (show Occ (expand js) (expand ks) A.toNat by rw [hA, ← ha]; exact hao) ho)⟩, rfl, by dsimp only; omega⟩
                  · simp (maxSteps := 1000000) (implicitDefEqProofs := false) only [u1, u2, uk, hAs, hkk, p1, p2, q1, q2, q3, p3, p4, p5, p6, p7, b1, Int.natCast_nonneg, Int.toNat_natCast, List.getElem?_map, encRun, hok, evRegion_st, ss, List.replicate, evOp, evPlain, evVal, evMem, St.eval, St.put, St.get, constV, List.set, lenV, sliceOf, arrayOf, fieldsOf, normOf, norm, firstRegion, look, maskFrom, evBin, evIndexS, evLoad, evVar, evStore, evFieldAddr, nameOf, St.alloc, St.drop, killL, kill, killAll, killObs, killOb, upd, cells?, part, retag, retagL, putIn, refFree, refFreeL, isNew, isNewL, Ty.isAgg, splice, idsL, ids, idsLL, reach, depth, St.dropL, resultsV, resultV, ↓reduceIte, Nat.reduceBEq, Nat.reduceAdd, Nat.reduceSub, Nat.reduceMul, Nat.reduceEqDiff, Nat.reduceLeDiff, Nat.reduceLT, effOf, effMem, effStore, effCall, effVar, effLit, effMake, effApp, Eff.ap, lend, evLit, evMake, evNil, freeze, onto, dropO, elemsV, sized, evCmp, eqT, eqG, minV, evUn, evField, evExtract, evIndexA, evIndexV, evSlice, optInt, fillV, placeOf, thawed, del, isNilSlice, plain, plainL, cellsJ, junkOk, St.with, setSlots, setObs, wantedD, seqOf, noRange, setAll, Array.size, te, einl, inls]
                    exact ⟨⟨(k + 1, b, true), fin _ _ (good_no hg fun a ha hao => absurd (show Occ (expand js) (expand ks) A.toNat by rw [hA, ← ha]; exact hao) ho)⟩, by rw [b3], by dsimp only; omega⟩
              · have := 0
                rcases hk2 with ⟨x, b1, b2, b3⟩ | ⟨b1, b3⟩
                · simp (maxSteps := 1000000) (implicitDefEqProofs := false) only [u1, u2, uk, hAs, hkk, p1, p2, q1, q2, q3, b1, b2, b3, Int.natCast_nonneg, Int.toNat_natCast, List.getElem?_map, encRun, hok, evRegion_st, ss, List.replicate, evOp, evPlain, evVal, evMem, St.eval, St.put, St.get, constV, List.set, lenV, sliceOf, arrayOf, fieldsOf, normOf, norm, firstRegion, look, maskFrom, evBin, evIndexS, evLoad, evVar, evStore, evFieldAddr, nameOf, St.alloc, St.drop, killL, kill, killAll, killObs, killOb, upd, cells?, part, retag, retagL, putIn, refFree, refFreeL, isNew, isNewL, Ty.isAgg, splice, idsL, ids, idsLL, reach, depth, St.dropL, resultsV, resultV, ↓reduceIte, Nat.reduceBEq, Nat.reduceAdd, Nat.reduceSub, Nat.reduceMul, Nat.reduceEqDiff, Nat.reduceLeDiff, Nat.reduceLT, effOf, effMem, effStore, effCall, effVar, effLit, effMake, effApp, Eff.ap, lend, evLit, evMake, evNil, freeze, onto, dropO, elemsV, sized, evCmp, eqT, eqG, minV, evUn, evField, evExtract, evIndexA, evIndexV, evSlice, optInt, fillV, placeOf, thawed, del, isNilSlice, plain, plainL, cellsJ, junkOk, St.with, setSlots, setObs, wantedD, seqOf, noRange, setAll, Array.size, te, einl, inls]
                  exact ⟨⟨(k + 1, b, true), fin _ _ (good_no hg fun a ha _ => ⟨rfl, by omega⟩)⟩, rfl, by dsimp only; omega⟩
                · simp (maxSteps := 1000000) (implicitDefEqProofs := false) only [u1, u2, uk, hAs, hkk, p1, p2, q1, q2, q3, b1, Int.natCast_nonneg, Int.toNat_natCast, List.getElem?_map, encRun, hok, evRegion_st, ss, List.replicate, evOp, evPlain, evVal, evMem, St.eval, St.put, St.get, constV, List.set, lenV, sliceOf, arrayOf, fieldsOf, normOf, norm, firstRegion, look, maskFrom, evBin, evIndexS, evLoad, evVar, evStore, evFieldAddr, nameOf, St.alloc, St.drop, killL, kill, killAll, killObs, killOb, upd, cells?, part, retag, retagL, putIn, refFree, refFreeL, isNew, isNewL, Ty.isAgg, splice, idsL, ids, idsLL, reach, depth, St.dropL, resultsV, resultV, ↓reduceIte, Nat.reduceBEq, Nat.reduceAdd, Nat.reduceSub, Nat.reduceMul, Nat.reduceEqDiff, Nat.reduceLeDiff, Nat.reduceLT, effOf, effMem, effStore, effCall, effVar, effLit, effMake, effApp, Eff.ap, lend, evLit, evMake, evNil, freeze, onto, dropO, elemsV, sized, evCmp, eqT, eqG, minV, evUn, evField, evExtract, evIndexA, evIndexV, evSlice, optInt, fillV, placeOf, thawed, del, isNilSlice, plain, plainL, cellsJ, junkOk, St.with, setSlots, setObs, wantedD, seqOf, noRange, setAll, Array.size, te, einl, inls]
                  exact ⟨⟨(k + 1, b, true), fin _ _ (good_no hg fun a ha _ => ⟨rfl, by omega⟩)⟩, by rw [b3], by dsimp only; omega⟩
            | false =>
              by_cases ho : Occ (expand js) (expand ks) A.toNat
              · rw [decide_eq_true (q4.2 ho)] at p5 p6
                rcases hk2 with ⟨x, b1, b2, b3⟩ | ⟨b1, b3⟩
                · simp (maxSteps := 1000000) (implicitDefEqProofs := false) only [u1, u2, uk, hAs, hkk, p1, p2, q1, q2, p3, p4, p5, p6, p7, b1, b2, b3, Int.natCast_nonneg, Int.toNat_natCast, List.getElem?_map, encRun, hok, evRegion_st, ss, List.replicate, evOp, evPlain, evVal, evMem, St.eval, St.put, St.get, constV, List.set, lenV, sliceOf, arrayOf, fieldsOf, normOf, norm, firstRegion, look, maskFrom, evBin, evIndexS, evLoad, evVar, evStore, evFieldAddr, nameOf, St.alloc, St.drop, killL, kill, killAll, killObs, killOb, upd, cells?, part, retag, retagL, putIn, refFree, refFreeL, isNew, isNewL, Ty.isAgg, splice, idsL, ids, idsLL, reach, depth, St.dropL, resultsV, resultV, ↓reduceIte, Nat.reduceBEq, Nat.reduceAdd, Nat.reduceSub, Nat.reduceMul, Nat.reduceEqDiff, Nat.reduceLeDiff, Nat.reduceLT, effOf, effMem, effStore, effCall, effVar, effLit, effMake, effApp, Eff.ap, lend, evLit, evMake, evNil, freeze, onto, dropO, elemsV, sized, evCmp, eqT, eqG, minV, evUn, evField, evExtract, evIndexA, evIndexV, evSlice, optInt, fillV, placeOf, thawed, del, isNilSlice, plain, plainL, cellsJ, junkOk, St.with, setSlots, setObs, wantedD, seqOf, noRange, setAll, Array.size, te, einl, inls]
                  exact ⟨⟨(k + 1, A, true), fin _ _ (good_yes hg hA q1 ho (Or.inl rfl))⟩, rfl, by dsimp only; omega⟩
                · simp (maxSteps := 1000000) (implicitDefEqProofs := false) only [u1, u2, uk, hAs, hkk, p1, p2, q1, q2, p3, p4, p5, p6, p7, b1, Int.natCast_nonneg, Int.toNat_natCast, List.getElem?_map, encRun, hok, evRegion_st, ss, List.replicate, evOp, evPlain, evVal, evMem, St.eval, St.put, St.get, constV, List.set, lenV, sliceOf, arrayOf, fieldsOf, normOf, norm, firstRegion, look, maskFrom, evBin, evIndexS, evLoad, evVar, evStore, evFieldAddr, nameOf, St.alloc, St.drop, killL, kill, killAll, killObs, killOb, upd, cells?, part, retag, retagL, putIn, refFree, refFreeL, isNew, isNewL, Ty.isAgg, splice, idsL, ids, idsLL, reach, depth, St.dropL, resultsV, resultV, ↓reduceIte, Nat.reduceBEq, Nat.reduceAdd, Nat.reduceSub, Nat.reduceMul, Nat.reduceEqDiff, Nat.reduceLeDiff, Nat.reduceLT, effOf, effMem, effStore, effCall, effVar, effLit, effMake, effApp, Eff.ap, lend, evLit, evMake, evNil, freeze, onto, dropO, elemsV, sized, evCmp, eqT, eqG, minV, evUn, evField, evExtract, evIndexA, evIndexV, evSlice, optInt, fillV, placeOf, thawed, del, isNilSlice, plain, plainL, cellsJ, junkOk, St.with, setSlots, setObs, wantedD, seqOf, noRange, setAll, Array.size, te, einl, inls]
                  exact ⟨⟨(k + 1, A, true), fin _ _ (good_yes hg hA q1 ho (Or.inl rfl))⟩, by rw [b3], by dsimp only; omega⟩
              · rw [decide_eq_false (fun h => ho (q4.1 h))] at p5 p6
                rcases hk2 with ⟨x, b1, b2, b3⟩ | ⟨b1, b3⟩
                · simp (maxSteps := 1000000) (implicitDefEqProofs := false) only [u1, u2, uk, hAs, hkk, p1, p2, q1, q2, p3, p4, p5, p6, p7, b1, b2, b3, Int.natCast_nonneg, Int.toNat_natCast, List.getElem?_map, encRun, hok, evRegion_st, ss, List.replicate, evOp, evPlain, evVal, evMem, St.eval, St.put, St.get, constV, List.set, lenV, sliceOf, arrayOf, fieldsOf, normOf, norm, firstRegion, look, maskFrom, evBin, evIndexS, evLoad, evVar, evStore, evFieldAddr, nameOf, St.alloc, St.drop, killL, kill, killAll, killObs, killOb, upd, cells?, part, retag, retagL, putIn, refFree, refFreeL, isNew, isNewL, Ty.isAgg, splice, idsL, ids, idsLL, reach, depth, St.dropL, resultsV, resultV, ↓reduceIte, Nat.reduceBEq, Nat.reduceAdd, Nat.reduceSub, Nat.reduceMul, Nat.reduceEqDiff, Nat.reduceLeDiff, Nat.reduceLT, effOf, effMem, effStore, effCall, effVar, effLit, effMake, effApp, Eff.ap, lend, evLit, evMake, evNil, freeze, onto, dropO, elemsV, sized, evCmp, eqT, eqG, minV, evUn, evField, evExtract, evIndexA, evIndexV, evSlice, optInt, fillV, placeOf, thawed, del, isNilSlice, plain, plainL, cellsJ, junkOk, St.with, setSlots, setObs, wantedD, seqOf, noRange, setAll, Array.size, te, einl, inls]
                  exact ⟨⟨(k + 1, b, false), fin _ _ (good_no hg fun a ha hao => absurd (show Occ (expand js) (expand ks) A.toNat by rw [hA, ← ha]; exact hao) ho)⟩, rfl, by dsimp only; omega⟩
                · simp (maxSteps := 1000000) (implicitDefEqProofs := false) only [u1, u2, uk, hAs, hkk, p1, p2, q1, q2, p3, p4, p5, p6, p7, b1, Int.natCast_nonneg, Int.toNat_natCast, List.getElem?_map, encRun, hok, evRegion_st, ss, List.replicate, evOp, evPlain, evVal, evMem, St.eval, St.put, St.get, constV, List.set, lenV, sliceOf, arrayOf, fieldsOf, normOf, norm, firstRegion, look, maskFrom, evBin, evIndexS, evLoad, evVar, evStore, evFieldAddr, nameOf, St.alloc, St.drop, killL, kill, killAll, killObs, killOb, upd, cells?, part, retag, retagL, putIn, refFree, refFreeL, isNew, isNewL, Ty.isAgg, splice, idsL, ids, idsLL, reach, depth, St.dropL, resultsV, resultV, ↓reduceIte, Nat.reduceBEq, Nat.reduceAdd, Nat.reduceSub, Nat.reduceMul, Nat.reduceEqDiff, Nat.reduceLeDiff, Nat.reduceLT, effOf, effMem, effStore, effCall, effVar, effLit, effMake, effApp, Eff.ap, lend, evLit, evMake, evNil, freeze, onto, dropO, elemsV, sized, evCmp, eqT, eqG, minV, evUn, evField, evExtract, evIndexA, evIndexV, evSlice, optInt, fillV, placeOf, thawed, del, isNilSlice, plain, plainL, cellsJ, junkOk, St.with, setSlots, setObs, wantedD, seqOf, noRange, setAll, Array.size, te, einl, inls]
                  exact ⟨⟨(k + 1, b, false), fin _ _ (good_no hg fun a ha hao => absurd (show Occ (expand js) (expand ks) A.toNat by rw [hA, ← ha]; exact hao) ho)⟩, by rw [b3], by dsimp only; omega⟩
          · have := 0
            rcases hk2 with ⟨x, b1, b2, b3⟩ | ⟨b1, b3⟩
            · simp (maxSteps := 1000000) (implicitDefEqProofs := false) only [u1, u2, uk, hAs, hkk, p1, p2, q1, q2, b1, b2, b3, Int.natCast_nonneg, Int.toNat_natCast, List.getElem?_map, encRun, hok, evRegion_st, ss, List.replicate, evOp, evPlain, evVal, evMem, St.eval, St.put, St.get, constV, List.set, lenV, sliceOf, arrayOf, fieldsOf, normOf, norm, firstRegion, look, maskFrom, evBin, evIndexS, evLoad, evVar, evStore, evFieldAddr, nameOf, St.alloc, St.drop, killL, kill, killAll, killObs, killOb, upd, cells?, part, retag, retagL, putIn, refFree, refFreeL, isNew, isNewL, Ty.isAgg, splice, idsL, ids, idsLL, reach, depth, St.dropL, resultsV, resultV, ↓reduceIte, Nat.reduceBEq, Nat.reduceAdd, Nat.reduceSub, Nat.reduceMul, Nat.reduceEqDiff, Nat.reduceLeDiff, Nat.reduceLT, effOf, effMem, effStore, effCall, effVar, effLit, effMake, effApp, Eff.ap, lend, evLit, evMake, evNil, freeze, onto, dropO, elemsV, sized, evCmp, eqT, eqG, minV, evUn, evField, evExtract, evIndexA, evIndexV, evSlice, optInt, fillV, placeOf, thawed, del, isNilSlice, plain, plainL, cellsJ, junkOk, St.with, setSlots, setObs, wantedD, seqOf, noRange, setAll, Array.size, te, einl, inls]
              exact ⟨⟨(k + 1, b, f), fin _ _ (good_no hg fun a ha hao => absurd (occ_len hao) (by have := expand_len n3; have := expand_len m3; omega))⟩, rfl, by dsimp only; omega⟩
            · simp (maxSteps := 1000000) (implicitDefEqProofs := false) only [u1, u2, uk, hAs, hkk, p1, p2, q1, q2, b1, Int.natCast_nonneg, Int.toNat_natCast, List.getElem?_map, encRun, hok, evRegion_st, ss, List.replicate, evOp, evPlain, evVal, evMem, St.eval, St.put, St.get, constV, List.set, lenV, sliceOf, arrayOf, fieldsOf, normOf, norm, firstRegion, look, maskFrom, evBin, evIndexS, evLoad, evVar, evStore, evFieldAddr, nameOf, St.alloc, St.drop, killL, kill, killAll, killObs, killOb, upd, cells?, part, retag, retagL, putIn, refFree, refFreeL, isNew, isNewL, Ty.isAgg, splice, idsL, ids, idsLL, reach, depth, St.dropL, resultsV, resultV, ↓reduceIte, Nat.reduceBEq, Nat.reduceAdd, Nat.reduceSub, Nat.reduceMul, Nat.reduceEqDiff, Nat.reduceLeDiff, Nat.reduceLT, effOf, effMem, effStore, effCall, effVar, effLit, effMake, effApp, Eff.ap, lend, evLit, evMake, evNil, freeze, onto, dropO, elemsV, sized, evCmp, eqT, eqG, minV, evUn, evField, evExtract, evIndexA, evIndexV, evSlice, optInt, fillV, placeOf, thawed, del, isNilSlice, plain, plainL, cellsJ, junkOk, St.with, setSlots, setObs, wantedD, seqOf, noRange, setAll, Array.size, te, einl, inls]
              exact ⟨⟨(k + 1, b, f), fin _ _ (good_no hg fun a ha hao => absurd (occ_len hao) (by have := expand_len n3; have := expand_len m3; omega))⟩, by rw [b3], by dsimp only; omega⟩
        · have := 0
          rcases hk2 with ⟨x, b1, b2, b3⟩ | ⟨b1, b3⟩
          · simp (maxSteps := 1000000) (implicitDefEqProofs := false) only [u1, u2, uk, hAs, hkk, p1, p2, q1, b1, b2, b3, Int.natCast_nonneg, Int.toNat_natCast, List.getElem?_map, encRun, hok, evRegion_st, ss, List.replicate, evOp, evPlain, evVal, evMem, St.eval, St.put, St.get, constV, List.set, lenV, sliceOf, arrayOf, fieldsOf, normOf, norm, firstRegion, look, maskFrom, evBin, evIndexS, evLoad, evVar, evStore, evFieldAddr, nameOf, St.alloc, St.drop, killL, kill, killAll, killObs, killOb, upd, cells?, part, retag, retagL, putIn, refFree, refFreeL, isNew, isNewL, Ty.isAgg, splice, idsL, ids, idsLL, reach, depth, St.dropL, resultsV, resultV, ↓reduceIte, Nat.reduceBEq, Nat.reduceAdd, Nat.reduceSub, Nat.reduceMul, Nat.reduceEqDiff, Nat.reduceLeDiff, Nat.reduceLT, effOf, effMem, effStore, effCall, effVar, effLit, effMake, effApp, Eff.ap, lend, evLit, evMake, evNil, freeze, onto, dropO, elemsV, sized, evCmp, eqT, eqG, minV, evUn, evField, evExtract, evIndexA, evIndexV, evSlice, optInt, fillV, placeOf, thawed, del, isNilSlice, plain, plainL, cellsJ, junkOk, St.with, setSlots, setObs, wantedD, seqOf, noRange, setAll, Array.size, te, einl, inls]
            exact ⟨⟨(k + 1, b, f), fin _ _ (good_no hg fun a ha _ => by omega)⟩, rfl, by dsimp only; omega⟩
          · simp (maxSteps := 1000000) (implicitDefEqProofs := false) only [u1, u2, uk, hAs, hkk, p1, p2, q1, b1, Int.natCast_nonneg, Int.toNat_natCast, List.getElem?_map, encRun, hok, evRegion_st, ss, List.replicate, evOp, evPlain, evVal, evMem, St.eval, St.put, St.get, constV, List.set, lenV, sliceOf, arrayOf, fieldsOf, normOf, norm, firstRegion, look, maskFrom, evBin, evIndexS, evLoad, evVar, evStore, evFieldAddr, nameOf, St.alloc, St.drop, killL, kill, killAll, killObs, killOb, upd, cells?, part, retag, retagL, putIn, refFree, refFreeL, isNew, isNewL, Ty.isAgg, splice, idsL, ids, idsLL, reach, depth, St.dropL, resultsV, resultV, ↓reduceIte, Nat.reduceBEq, Nat.reduceAdd, Nat.reduceSub, Nat.reduceMul, Nat.reduceEqDiff, Nat.reduceLeDiff, Nat.reduceLT, effOf, effMem, effStore, effCall, effVar, effLit, effMake, effApp, Eff.ap, lend, evLit, evMake, evNil, freeze, onto, dropO, elemsV, sized, evCmp, eqT, eqG, minV, evUn, evField, evExtract, evIndexA, evIndexV, evSlice, optInt, fillV, placeOf, thawed, del, isNilSlice, plain, plainL, cellsJ, junkOk, St.with, setSlots, setObs, wantedD, seqOf, noRange, setAll, Array.size, te, einl, inls]
            exact ⟨⟨(k + 1, b, f), fin _ _ (good_no hg fun a ha _ => by omega)⟩, by rw [b3], by dsimp only; omega⟩
      · obtain rfl : k = ks.length + 1 := by omega
        have hg2 := good_row hg
        have hi2 : (∃ x, (i : Int) < js.length ∧ js[i]? = some x ∧ IntKind.i64.wrap (total (js.take i) + x.len) = total (js.take (i + 1))) ∨ (¬ (i : Int) < js.length ∧ total (js.take (i + 1)) = total (js.take i)) := by
          by_cases h : i < js.length
          · have h5 : js[i]? = some js[i] := List.getElem?_eq_getElem h
            have h6 := total_take h5
            have h7 := total_take_in n3 (i + 1)
            exact Or.inl ⟨_, by omega, h5, by rw [wrap_in (by omega), h6]⟩
          · exact Or.inr ⟨by omega, by rw [List.take_of_length_le (by omega), List.take_of_length_le (by omega)]⟩
        rcases hi2 with ⟨x, a1, a2, a3⟩ | ⟨a1, a3⟩
        · simp (maxSteps := 1000000) (implicitDefEqProofs := false) only [hkk, a1, a2, a3, ui, Int.natCast_nonneg, Int.toNat_natCast, List.getElem?_map, encRun, hok, evRegion_st, ss, List.replicate, evOp, evPlain, evVal, evMem, St.eval, St.put, St.get, constV, List.set, lenV, sliceOf, arrayOf, fieldsOf, normOf, norm, firstRegion, look, maskFrom, evBin, evIndexS, evLoad, evVar, evStore, evFieldAddr, nameOf, St.alloc, St.drop, killL, kill, killAll, killObs, killOb, upd, cells?, part, retag, retagL, putIn, refFree, refFreeL, isNew, isNewL, Ty.isAgg, splice, idsL, ids, idsLL, reach, depth, St.dropL, resultsV, resultV, ↓reduceIte, Nat.reduceBEq, Nat.reduceAdd, Nat.reduceSub, Nat.reduceMul, Nat.reduceEqDiff, Nat.reduceLeDiff, Nat.reduceLT, effOf, effMem, effStore, effCall, effVar, effLit, effMake, effApp, Eff.ap, lend, evLit, evMake, evNil, freeze, onto, dropO, elemsV, sized, evCmp, eqT, eqG, minV, evUn, evField, evExtract, evIndexA, evIndexV, evSlice, optInt, fillV, placeOf, thawed, del, isNilSlice, plain, plainL, cellsJ, junkOk, St.with, setSlots, setObs, wantedD, seqOf, noRange, setAll, Array.size, te, einl, inls]
          exact ⟨⟨(i + 1, b, f), by dsimp only; omega, hg2⟩, rfl, by dsimp only; omega⟩
        · simp (maxSteps := 1000000) (implicitDefEqProofs := false) only [hkk, a1, ui, Int.natCast_nonneg, Int.toNat_natCast, List.getElem?_map, encRun, hok, evRegion_st, ss, List.replicate, evOp, evPlain, evVal, evMem, St.eval, St.put, St.get, constV, List.set, lenV, sliceOf, arrayOf, fieldsOf, normOf, norm, firstRegion, look, maskFrom, evBin, evIndexS, evLoad, evVar, evStore, evFieldAddr, nameOf, St.alloc, St.drop, killL, kill, killAll, killObs, killOb, upd, cells?, part, retag, retagL, putIn, refFree, refFreeL, isNew, isNewL, Ty.isAgg, splice, idsL, ids, idsLL, reach, depth, St.dropL, resultsV, resultV, ↓reduceIte, Nat.reduceBEq, Nat.reduceAdd, Nat.reduceSub, Nat.reduceMul, Nat.reduceEqDiff, Nat.reduceLeDiff, Nat.reduceLT, effOf, effMem, effStore, effCall, effVar, effLit, effMake, effApp, Eff.ap, lend, evLit, evMake, evNil, freeze, onto, dropO, elemsV, sized, evCmp, eqT, eqG, minV, evUn, evField, evExtract, evIndexA, evIndexV, evSlice, optInt, fillV, placeOf, thawed, del, isNilSlice, plain, plainL, cellsJ, junkOk, St.with, setSlots, setObs, wantedD, seqOf, noRange, setAll, Array.size, te, einl, inls]
          exact ⟨⟨(i + 1, b, f), by dsimp only; omega, hg2⟩, by rw [a3], by dsimp only; omega⟩
    · obtain rfl : i = js.length + 1 := by omega
      rw [first_find (good_end n3 n1 m3 m1 hg)]
      simp (maxSteps := 1000000) (implicitDefEqProofs := false) only [hlast, Try.ntmps38, Try.results38, efc38, fc38, hok, evRegion_st, encFind, ss, List.replicate, evOp, evPlain, evVal, evMem, St.eval, St.put, St.get, constV, List.set, lenV, sliceOf, arrayOf, fieldsOf, normOf, norm, firstRegion, look, maskFrom, evBin, evIndexS, evLoad, evVar, evStore, evFieldAddr, nameOf, St.alloc, St.drop, killL, kill, killAll, killObs, killOb, upd, cells?, part, retag, retagL, putIn, refFree, refFreeL, isNew, isNewL, Ty.isAgg, splice, idsL, ids, idsLL, reach, depth, St.dropL, resultsV, resultV, ↓reduceIte, Nat.reduceBEq, Nat.reduceAdd, Nat.reduceSub, Nat.reduceMul, Nat.reduceEqDiff, Nat.reduceLeDiff, Nat.reduceLT, effOf, effMem, effStore, effCall, effVar, effLit, effMake, effApp, Eff.ap, lend, evLit, evMake, evNil, freeze, onto, dropO, elemsV, sized, evCmp, eqT, eqG, minV, evUn, evField, evExtract, evIndexA, evIndexV, evSlice, optInt, fillV, placeOf, thawed, del, isNilSlice, plain, plainL, cellsJ, junkOk, St.with, setSlots, setObs, wantedD, seqOf, noRange, setAll, Array.size, te, einl, inls]
  · have hv' : (both xs ys != 0) = true := by simp [hv]
    simp (maxSteps := 1000000) (implicitDefEqProofs := false) only [Try.ntmps38, Try.results38, efc38, fc38, h1, hv', ss, List.replicate, evOp, evPlain, evVal, evMem, St.eval, St.put, St.get, constV, List.set, lenV, sliceOf, arrayOf, fieldsOf, normOf, norm, firstRegion, look, maskFrom, evBin, evIndexS, evLoad, evVar, evStore, evFieldAddr, nameOf, St.alloc, St.drop, killL, kill, killAll, killObs, killOb, upd, cells?, part, retag, retagL, putIn, refFree, refFreeL, isNew, isNewL, Ty.isAgg, splice, idsL, ids, idsLL, reach, depth, St.dropL, resultsV, resultV, ↓reduceIte, Nat.reduceBEq, Nat.reduceAdd, Nat.reduceSub, Nat.reduceMul, Nat.reduceEqDiff, Nat.reduceLeDiff, Nat.reduceLT, effOf, effMem, effStore, effCall, effVar, effLit, effMake, effApp, Eff.ap, lend, evLit, evMake, evNil, freeze, onto, dropO, elemsV, sized, evCmp, eqT, eqG, minV, evUn, evField, evExtract, evIndexA, evIndexV, evSlice, optInt, fillV, placeOf, thawed, del, isNilSlice, plain, plainL, cellsJ, junkOk, St.with, setSlots, setObs, wantedD, seqOf, noRange, setAll, Array.size, te, einl, inls]
    simp [encFind, findM, hv]

end Go.AM.A
end
