import Derived.Test.YtdipdaajicceoaaABandN
set_option linter.unusedSimpArgs false
namespace Go.AM.A
open Go Go.Proofs

theorem mk_eq (r s : Run) : (r.thick == s.thick && (r.shade == s.shade && r.flaw == s.flaw)) = decide (r.mk' = s.mk') := by
  rw [Bool.eq_iff_iff]
  simp [Run.mk']

structure Walk (js ks : List Run) where
  pre : List Run
  post : List Run
  qre : List Run
  qost : List Run
  hj : js = pre ++ post
  hk : ks = qre ++ qost
  hl : pre.length = qre.length
  hc : (cpl (expand js) (expand ks) : Int) = total pre + cpl (expand post) (expand qost)
  hn : Normal post
  hm : Normal qost

theorem lens_sub {B : Int} {pre post : List Run} (h : Lens B (pre ++ post)) : Lens B post := fun r hr => h r (List.mem_append_right _ hr)

/-- What joining gives is normal. -/
theorem joined_normal {rs : List Run} (h : Okay rs) : Normal (joinedL rs) ∧ expand (joinedL rs) = expand rs ∧ Okay (joinedL rs) ∧ (joinedL rs).length ≤ rs.length ∧ total (joinedL rs) = total rs := by
  have h1 := expand_len h
  have h2 := h.2
  have h3 := joined_rle h.1 (by omega)
  obtain ⟨h4, h5, h6⟩ := rle_ok (expand rs) (by omega)
  rw [← h3] at h4 h5 h6
  exact ⟨h6, h5, (joined_okay h).1, joined_le rs, (joined_okay h).2⟩

theorem walk_next {js ks : List Run} (w : Walk js ks) {r s : Run} {post qost : List Run} (h1 : w.post = r :: post) (h2 : w.qost = s :: qost) (hj : Okay js) (hk : Okay ks) :
    (r.mk' ≠ s.mk' → (cpl (expand js) (expand ks) : Int) = total w.pre) ∧ (r.mk' = s.mk' → r.len ≠ s.len → (cpl (expand js) (expand ks) : Int) = total w.pre + min r.len s.len) ∧
    (r.mk' = s.mk' → r.len = s.len → ∃ w' : Walk js ks, w'.pre = w.pre ++ [r] ∧ w'.post = post ∧ w'.qost = qost) := by
  obtain ⟨pre, post0, qre, qost0, a1, a2, a3, a4, a5, a6⟩ := w
  dsimp only at h1 h2 ⊢
  subst h1; subst h2
  have l1 := lens_sub (a1 ▸ okay_lens hj)
  have l2 := lens_sub (a2 ▸ okay_lens hk)
  have hst := cpl_step l1 l2 a5 a6
  refine ⟨fun h => ?_, fun h h' => ?_, fun h h' => ?_⟩
  · rw [if_pos h] at hst; omega
  · rw [if_neg (by simpa using h), if_neg h'] at hst; omega
  · rw [if_neg (by simpa using h), if_pos h'] at hst
    refine ⟨⟨pre ++ [r], post, qre ++ [s], qost, by simpa using a1, by simpa using a2, by simp [a3], ?_, normal_tail a5, normal_tail a6⟩, rfl, rfl, rfl⟩
    rw [total_app, total_cons, total_nil, a4, hst]; omega

theorem okT78 : okCode (Try.f78.body.getD .skip) = true := by decide +kernel

set_option maxHeartbeats 4000000 in
theorem c78 (xs ys : List Run) (hx : Okay xs) (hy : Okay ys) (hn : xs.length ≤ 100000) (hm : ys.length ≤ 100000) :
    (orcω E X0).call 78 [.sl false (xs.map encRun), .sl false (ys.map encRun)] = some (.int .i64 (cpl (expand xs) (expand ys))) := by
  refine call_of rfl fn78 rfl ?_
  have hok := okT78
  simp only [Try.f78, Option.getD_some, okCode, Bool.and_eq_true, Bool.and_true, Bool.true_and] at hok
  try simp only [and_assoc] at hok
  obtain ⟨hk1, hk2, hk3⟩ := hok
  have h1 := c75 false xs (by omega)
  have h2 := c75 false ys (by omega)
  obtain ⟨n1, n2, n3, n4, _⟩ := joined_normal hx
  obtain ⟨m1, m2, m3, m4, _⟩ := joined_normal hy
  rw [← n2, ← m2]
  generalize joinedL xs = js at *
  generalize joinedL ys = ks at *
  have t1 := n3.2
  simp (maxSteps := 1000000) (implicitDefEqProofs := false) only [Try.ntmps78, Try.results78, efc78, fc78, h1, h2, ss, List.replicate, evOp, evPlain, evVal, evMem, St.eval, St.put, St.get, constV, List.set, lenV, sliceOf, arrayOf, fieldsOf, normOf, norm, firstRegion, look, maskFrom, evBin, evIndexS, evLoad, evVar, evStore, evFieldAddr, nameOf, St.alloc, St.drop, killL, kill, killAll, killObs, killOb, upd, cells?, part, retag, retagL, putIn, refFree, refFreeL, isNew, isNewL, Ty.isAgg, splice, idsL, ids, idsLL, reach, depth, St.dropL, resultsV, resultV, ↓reduceIte, Nat.reduceBEq, Nat.reduceAdd, Nat.reduceSub, Nat.reduceMul, Nat.reduceEqDiff, Nat.reduceLeDiff, Nat.reduceLT, effOf, effMem, effStore, effCall, effVar, effLit, effMake, effApp, Eff.ap, lend, evLit, evMake, evNil, freeze, onto, dropO, elemsV, sized, evCmp, eqT, eqG, minV, evUn, evField, evExtract, evIndexA, evIndexV, evSlice, optInt, fillV, placeOf, thawed, del, isNilSlice, plain, plainL, cellsJ, junkOk, St.with, setSlots, setObs, wantedD, seqOf, noRange, setAll, Array.size, ty1, ti1, ty2, ti2, ty3, ti3, ty4, ti4, ty22, ti22, ty26, ti26, ty38, ti38, ty41, ti41, ty53, ti53, ty54, ti54, ty60, ti60, ty63, ti63, ty68, ti68, ty69, ti69, ty80, ti80, ty81, ti81, ty87, ti87, ty88, ti88, ty90, ti90, ty91, ti91, ty92, ti92, ty94, ti94, ty95, ti95, einl, inls]
  generalize hr : loopAt _ _ _ _ _ _ = r; revert r
  refine loop_inv (ι := Walk js ks) (fun w => [(5, .int .i64 (total w.pre)), (16, .int .i64 w.pre.length)]) (fun _ => []) (fun w => w.post.length) ⟨[], js, [], ks, rfl, rfl, rfl, by simp [total], n1, m1⟩ (by simp (maxSteps := 1000000) (implicitDefEqProofs := false) only [total_nil, ss, List.replicate, evOp, evPlain, evVal, evMem, St.eval, St.put, St.get, constV, List.set, lenV, sliceOf, arrayOf, fieldsOf, normOf, norm, firstRegion, look, maskFrom, evBin, evIndexS, evLoad, evVar, evStore, evFieldAddr, nameOf, St.alloc, St.drop, killL, kill, killAll, killObs, killOb, upd, cells?, part, retag, retagL, putIn, refFree, refFreeL, isNew, isNewL, Ty.isAgg, splice, idsL, ids, idsLL, reach, depth, St.dropL, resultsV, resultV, ↓reduceIte, Nat.reduceBEq, Nat.reduceAdd, Nat.reduceSub, Nat.reduceMul, Nat.reduceEqDiff, Nat.reduceLeDiff, Nat.reduceLT, effOf, effMem, effStore, effCall, effVar, effLit, effMake, effApp, Eff.ap, lend, evLit, evMake, evNil, freeze, onto, dropO, elemsV, sized, evCmp, eqT, eqG, minV, evUn, evField, evExtract, evIndexA, evIndexV, evSlice, optInt, fillV, placeOf, thawed, del, isNilSlice, plain, plainL, cellsJ, junkOk, St.with, setSlots, setObs, wantedD, seqOf, noRange, setAll, Array.size, ty1, ti1, ty2, ti2, ty3, ti3, ty4, ti4, ty22, ti22, ty26, ti26, ty38, ti38, ty41, ti41, ty53, ti53, ty54, ti54, ty60, ti60, ty63, ti63, ty68, ti68, ty69, ti69, ty80, ti80, ty81, ti81, ty87, ti87, ty88, ti88, ty90, ti90, ty91, ti91, ty92, ti92, ty94, ti94, ty95, ti95, einl, inls]) ?_
  intro w
  have l1 : js.length = w.pre.length + w.post.length := by have := congrArg List.length w.hj; simpa using this
  have l2 : ks.length = w.pre.length + w.qost.length := by have := congrArg List.length w.hk; rw [List.length_append, ← w.hl] at this; exact this
  have t2 := okay_nonneg (okay_app (w.hj ▸ n3)).1
  cases hp : w.post with
  | nil =>
    have hc := w.hc
    rw [hp, expand_nil, cpl_nil_left] at hc
    have a1 : ¬ (w.pre.length : Int) < min (js.length : Int) ks.length := by rw [hp] at l1; simp at l1; omega
    simp (maxSteps := 1000000) (implicitDefEqProofs := false) only [a1, Try.ntmps78, Try.results78, efc78, fc78, ss, List.replicate, evOp, evPlain, evVal, evMem, St.eval, St.put, St.get, constV, List.set, lenV, sliceOf, arrayOf, fieldsOf, normOf, norm, firstRegion, look, maskFrom, evBin, evIndexS, evLoad, evVar, evStore, evFieldAddr, nameOf, St.alloc, St.drop, killL, kill, killAll, killObs, killOb, upd, cells?, part, retag, retagL, putIn, refFree, refFreeL, isNew, isNewL, Ty.isAgg, splice, idsL, ids, idsLL, reach, depth, St.dropL, resultsV, resultV, ↓reduceIte, Nat.reduceBEq, Nat.reduceAdd, Nat.reduceSub, Nat.reduceMul, Nat.reduceEqDiff, Nat.reduceLeDiff, Nat.reduceLT, effOf, effMem, effStore, effCall, effVar, effLit, effMake, effApp, Eff.ap, lend, evLit, evMake, evNil, freeze, onto, dropO, elemsV, sized, evCmp, eqT, eqG, minV, evUn, evField, evExtract, evIndexA, evIndexV, evSlice, optInt, fillV, placeOf, thawed, del, isNilSlice, plain, plainL, cellsJ, junkOk, St.with, setSlots, setObs, wantedD, seqOf, noRange, setAll, Array.size, ty1, ti1, ty2, ti2, ty3, ti3, ty4, ti4, ty22, ti22, ty26, ti26, ty38, ti38, ty41, ti41, ty53, ti53, ty54, ti54, ty60, ti60, ty63, ti63, ty68, ti68, ty69, ti69, ty80, ti80, ty81, ti81, ty87, ti87, ty88, ti88, ty90, ti90, ty91, ti91, ty92, ti92, ty94, ti94, ty95, ti95, einl, inls]
    simp [hc]
  | cons r post =>
    cases hq : w.qost with
    | nil =>
      have hc := w.hc
      rw [hq, expand_nil, cpl_nil_right] at hc
      have a1 : ¬ (w.pre.length : Int) < min (js.length : Int) ks.length := by rw [hq] at l2; simp at l2; omega
      simp (maxSteps := 1000000) (implicitDefEqProofs := false) only [a1, Try.ntmps78, Try.results78, efc78, fc78, ss, List.replicate, evOp, evPlain, evVal, evMem, St.eval, St.put, St.get, constV, List.set, lenV, sliceOf, arrayOf, fieldsOf, normOf, norm, firstRegion, look, maskFrom, evBin, evIndexS, evLoad, evVar, evStore, evFieldAddr, nameOf, St.alloc, St.drop, killL, kill, killAll, killObs, killOb, upd, cells?, part, retag, retagL, putIn, refFree, refFreeL, isNew, isNewL, Ty.isAgg, splice, idsL, ids, idsLL, reach, depth, St.dropL, resultsV, resultV, ↓reduceIte, Nat.reduceBEq, Nat.reduceAdd, Nat.reduceSub, Nat.reduceMul, Nat.reduceEqDiff, Nat.reduceLeDiff, Nat.reduceLT, effOf, effMem, effStore, effCall, effVar, effLit, effMake, effApp, Eff.ap, lend, evLit, evMake, evNil, freeze, onto, dropO, elemsV, sized, evCmp, eqT, eqG, minV, evUn, evField, evExtract, evIndexA, evIndexV, evSlice, optInt, fillV, placeOf, thawed, del, isNilSlice, plain, plainL, cellsJ, junkOk, St.with, setSlots, setObs, wantedD, seqOf, noRange, setAll, Array.size, ty1, ti1, ty2, ti2, ty3, ti3, ty4, ti4, ty22, ti22, ty26, ti26, ty38, ti38, ty41, ti41, ty53, ti53, ty54, ti54, ty60, ti60, ty63, ti63, ty68, ti68, ty69, ti69, ty80, ti80, ty81, ti81, ty87, ti87, ty88, ti88, ty90, ti90, ty91, ti91, ty92, ti92, ty94, ti94, ty95, ti95, einl, inls]
      simp [hc]
    | cons s qost =>
      obtain ⟨b1, b2, b3⟩ := walk_next w hp hq n3 m3
      rw [hp] at l1
      rw [hq] at l2
      simp only [List.length_cons] at l1 l2
      have a1 : (w.pre.length : Int) < min (js.length : Int) ks.length := by omega
      have g1 : js[w.pre.length]? = some r := by
        have := w.hj
        rw [hp] at this
        have h5 := congrArg (fun l : List Run => l[w.pre.length]?) this
        simpa using h5
      have g2 : ks[w.pre.length]? = some s := by
        have := w.hk
        rw [hq] at this
        have h5 := congrArg (fun l : List Run => l[w.pre.length]?) this
        rw [w.hl] at h5 ⊢
        simpa using h5
      have r1 := okay_lens n3 r (List.mem_of_getElem? g1)
      have r2 := okay_lens m3 s (List.mem_of_getElem? g2)
      have t3 : total w.pre ≤ 40000000 := by
        have h5 := congrArg total w.hj
        rw [total_app] at h5
        have h6 := okay_nonneg (okay_app (w.hj ▸ n3)).2
        omega
      have w1 : IntKind.i64.wrap (total w.pre + min r.len s.len) = total w.pre + min r.len s.len := wrap_in (by omega)
      have w2 : IntKind.i64.wrap ((w.pre.length : Int) + 1) = (w.pre.length : Int) + 1 := wrap_in (by omega)
      have w3 : IntKind.i64.wrap (total w.pre + r.len) = total w.pre + r.len := wrap_in (by omega)
      have w4 : IntKind.i64.wrap (total w.pre + s.len) = total w.pre + s.len := wrap_in (by omega)
      by_cases hmk : r.mk' = s.mk'
      · have c1 : (r.thick == s.thick && (r.shade == s.shade && r.flaw == s.flaw)) = true := by rw [mk_eq]; simp [hmk]
        by_cases hlen : r.len = s.len
        · obtain ⟨w', e1, e2, e3⟩ := b3 hmk hlen
          have c2 : (r.len != s.len) = false := by simp [hlen]
          simp (maxSteps := 1000000) (implicitDefEqProofs := false) only [w1, w2, w3, w4, a1, g1, g2, Int.natCast_nonneg, Int.toNat_natCast, List.getElem?_map, encRun, c1, c2, evRegion_st hk1, evRegion_st hk2, evRegion_st hk3, ss, List.replicate, evOp, evPlain, evVal, evMem, St.eval, St.put, St.get, constV, List.set, lenV, sliceOf, arrayOf, fieldsOf, normOf, norm, firstRegion, look, maskFrom, evBin, evIndexS, evLoad, evVar, evStore, evFieldAddr, nameOf, St.alloc, St.drop, killL, kill, killAll, killObs, killOb, upd, cells?, part, retag, retagL, putIn, refFree, refFreeL, isNew, isNewL, Ty.isAgg, splice, idsL, ids, idsLL, reach, depth, St.dropL, resultsV, resultV, ↓reduceIte, Nat.reduceBEq, Nat.reduceAdd, Nat.reduceSub, Nat.reduceMul, Nat.reduceEqDiff, Nat.reduceLeDiff, Nat.reduceLT, effOf, effMem, effStore, effCall, effVar, effLit, effMake, effApp, Eff.ap, lend, evLit, evMake, evNil, freeze, onto, dropO, elemsV, sized, evCmp, eqT, eqG, minV, evUn, evField, evExtract, evIndexA, evIndexV, evSlice, optInt, fillV, placeOf, thawed, del, isNilSlice, plain, plainL, cellsJ, junkOk, St.with, setSlots, setObs, wantedD, seqOf, noRange, setAll, Array.size, ty1, ti1, ty2, ti2, ty3, ti3, ty4, ti4, ty22, ti22, ty26, ti26, ty38, ti38, ty41, ti41, ty53, ti53, ty54, ti54, ty60, ti60, ty63, ti63, ty68, ti68, ty69, ti69, ty80, ti80, ty81, ti81, ty87, ti87, ty88, ti88, ty90, ti90, ty91, ti91, ty92, ti92, ty94, ti94, ty95, ti95, einl, inls]
          refine ⟨w', ?_, by rw [e2]; simp⟩
          rw [e1, total_app, total_cons, total_nil]
          simp [hlen]
        · have hb := b2 hmk hlen
          have c2 : (r.len != s.len) = true := by simp [hlen]
          simp (maxSteps := 1000000) (implicitDefEqProofs := false) only [w1, w2, w3, w4, a1, g1, g2, Int.natCast_nonneg, Int.toNat_natCast, List.getElem?_map, encRun, c1, c2, evRegion_st hk1, evRegion_st hk2, evRegion_st hk3, Try.ntmps78, Try.results78, efc78, fc78, ss, List.replicate, evOp, evPlain, evVal, evMem, St.eval, St.put, St.get, constV, List.set, lenV, sliceOf, arrayOf, fieldsOf, normOf, norm, firstRegion, look, maskFrom, evBin, evIndexS, evLoad, evVar, evStore, evFieldAddr, nameOf, St.alloc, St.drop, killL, kill, killAll, killObs, killOb, upd, cells?, part, retag, retagL, putIn, refFree, refFreeL, isNew, isNewL, Ty.isAgg, splice, idsL, ids, idsLL, reach, depth, St.dropL, resultsV, resultV, ↓reduceIte, Nat.reduceBEq, Nat.reduceAdd, Nat.reduceSub, Nat.reduceMul, Nat.reduceEqDiff, Nat.reduceLeDiff, Nat.reduceLT, effOf, effMem, effStore, effCall, effVar, effLit, effMake, effApp, Eff.ap, lend, evLit, evMake, evNil, freeze, onto, dropO, elemsV, sized, evCmp, eqT, eqG, minV, evUn, evField, evExtract, evIndexA, evIndexV, evSlice, optInt, fillV, placeOf, thawed, del, isNilSlice, plain, plainL, cellsJ, junkOk, St.with, setSlots, setObs, wantedD, seqOf, noRange, setAll, Array.size, ty1, ti1, ty2, ti2, ty3, ti3, ty4, ti4, ty22, ti22, ty26, ti26, ty38, ti38, ty41, ti41, ty53, ti53, ty54, ti54, ty60, ti60, ty63, ti63, ty68, ti68, ty69, ti69, ty80, ti80, ty81, ti81, ty87, ti87, ty88, ti88, ty90, ti90, ty91, ti91, ty92, ti92, ty94, ti94, ty95, ti95, einl, inls]
          simp [hb]
      · have hb := b1 hmk
        have c1 : (r.thick == s.thick && (r.shade == s.shade && r.flaw == s.flaw)) = false := by rw [mk_eq]; simp [hmk]
        simp (maxSteps := 1000000) (implicitDefEqProofs := false) only [w1, w2, w3, w4, a1, g1, g2, Int.natCast_nonneg, Int.toNat_natCast, List.getElem?_map, encRun, c1, evRegion_st hk1, evRegion_st hk2, evRegion_st hk3, Try.ntmps78, Try.results78, efc78, fc78, ss, List.replicate, evOp, evPlain, evVal, evMem, St.eval, St.put, St.get, constV, List.set, lenV, sliceOf, arrayOf, fieldsOf, normOf, norm, firstRegion, look, maskFrom, evBin, evIndexS, evLoad, evVar, evStore, evFieldAddr, nameOf, St.alloc, St.drop, killL, kill, killAll, killObs, killOb, upd, cells?, part, retag, retagL, putIn, refFree, refFreeL, isNew, isNewL, Ty.isAgg, splice, idsL, ids, idsLL, reach, depth, St.dropL, resultsV, resultV, ↓reduceIte, Nat.reduceBEq, Nat.reduceAdd, Nat.reduceSub, Nat.reduceMul, Nat.reduceEqDiff, Nat.reduceLeDiff, Nat.reduceLT, effOf, effMem, effStore, effCall, effVar, effLit, effMake, effApp, Eff.ap, lend, evLit, evMake, evNil, freeze, onto, dropO, elemsV, sized, evCmp, eqT, eqG, minV, evUn, evField, evExtract, evIndexA, evIndexV, evSlice, optInt, fillV, placeOf, thawed, del, isNilSlice, plain, plainL, cellsJ, junkOk, St.with, setSlots, setObs, wantedD, seqOf, noRange, setAll, Array.size, ty1, ti1, ty2, ti2, ty3, ti3, ty4, ti4, ty22, ti22, ty26, ti26, ty38, ti38, ty41, ti41, ty53, ti53, ty54, ti54, ty60, ti60, ty63, ti63, ty68, ti68, ty69, ti69, ty80, ti80, ty81, ti81, ty87, ti87, ty88, ti88, ty90, ti90, ty91, ti91, ty92, ti92, ty94, ti94, ty95, ti95, einl, inls]
        simp [hb]

theorem okT86 : okCode (Try.f86.body.getD .skip) = true := by decide +kernel

set_option maxHeartbeats 4000000 in
theorem c86 (xs ys : List Run) (hx : Okay xs) (hy : Okay ys) (hn : xs.length ≤ 100000) (hm : ys.length ≤ 100000) :
    (orcω E X0).call 86 [.sl false (xs.map encRun), .sl false (ys.map encRun)] = some (.int .i64 (cpl (expand xs) (expand ys))) := by
  refine call_of rfl fn86 rfl ?_
  have hok := okT86
  simp only [Try.f86, Option.getD_some, okCode, Bool.and_eq_true, Bool.and_true, Bool.true_and] at hok
  try simp only [and_assoc] at hok
  obtain ⟨hk1, hk2, hk3⟩ := hok
  have h1 := c76 false xs (by omega)
  have h2 := c76 false ys (by omega)
  obtain ⟨n1, n2, n3, n4, _⟩ := joined_normal hx
  obtain ⟨m1, m2, m3, m4, _⟩ := joined_normal hy
  rw [joinR_eq (fun r hr => by have := hx.1 r hr; omega)] at h1
  rw [joinR_eq (fun r hr => by have := hy.1 r hr; omega)] at h2
  rw [← n2, ← m2]
  generalize joinedL xs = js at *
  generalize joinedL ys = ks at *
  have t1 := n3.2
  simp (maxSteps := 1000000) (implicitDefEqProofs := false) only [Try.ntmps86, Try.results86, efc86, fc86, h1, h2, ss, List.replicate, evOp, evPlain, evVal, evMem, St.eval, St.put, St.get, constV, List.set, lenV, sliceOf, arrayOf, fieldsOf, normOf, norm, firstRegion, look, maskFrom, evBin, evIndexS, evLoad, evVar, evStore, evFieldAddr, nameOf, St.alloc, St.drop, killL, kill, killAll, killObs, killOb, upd, cells?, part, retag, retagL, putIn, refFree, refFreeL, isNew, isNewL, Ty.isAgg, splice, idsL, ids, idsLL, reach, depth, St.dropL, resultsV, resultV, ↓reduceIte, Nat.reduceBEq, Nat.reduceAdd, Nat.reduceSub, Nat.reduceMul, Nat.reduceEqDiff, Nat.reduceLeDiff, Nat.reduceLT, effOf, effMem, effStore, effCall, effVar, effLit, effMake, effApp, Eff.ap, lend, evLit, evMake, evNil, freeze, onto, dropO, elemsV, sized, evCmp, eqT, eqG, minV, evUn, evField, evExtract, evIndexA, evIndexV, evSlice, optInt, fillV, placeOf, thawed, del, isNilSlice, plain, plainL, cellsJ, junkOk, St.with, setSlots, setObs, wantedD, seqOf, noRange, setAll, Array.size, ty1, ti1, ty2, ti2, ty3, ti3, ty4, ti4, ty22, ti22, ty26, ti26, ty38, ti38, ty41, ti41, ty53, ti53, ty54, ti54, ty60, ti60, ty63, ti63, ty68, ti68, ty69, ti69, ty80, ti80, ty81, ti81, ty87, ti87, ty88, ti88, ty90, ti90, ty91, ti91, ty92, ti92, ty94, ti94, ty95, ti95, einl, inls]
  generalize hr : loopAt _ _ _ _ _ _ = r; revert r
  refine loop_inv (ι := Walk js ks) (fun w => [(7, .int .i64 (total w.pre)), (8, .int .i64 w.pre.length)]) (fun _ => []) (fun w => w.post.length) ⟨[], js, [], ks, rfl, rfl, rfl, by simp [total], n1, m1⟩ (by simp (maxSteps := 1000000) (implicitDefEqProofs := false) only [total_nil, ss, List.replicate, evOp, evPlain, evVal, evMem, St.eval, St.put, St.get, constV, List.set, lenV, sliceOf, arrayOf, fieldsOf, normOf, norm, firstRegion, look, maskFrom, evBin, evIndexS, evLoad, evVar, evStore, evFieldAddr, nameOf, St.alloc, St.drop, killL, kill, killAll, killObs, killOb, upd, cells?, part, retag, retagL, putIn, refFree, refFreeL, isNew, isNewL, Ty.isAgg, splice, idsL, ids, idsLL, reach, depth, St.dropL, resultsV, resultV, ↓reduceIte, Nat.reduceBEq, Nat.reduceAdd, Nat.reduceSub, Nat.reduceMul, Nat.reduceEqDiff, Nat.reduceLeDiff, Nat.reduceLT, effOf, effMem, effStore, effCall, effVar, effLit, effMake, effApp, Eff.ap, lend, evLit, evMake, evNil, freeze, onto, dropO, elemsV, sized, evCmp, eqT, eqG, minV, evUn, evField, evExtract, evIndexA, evIndexV, evSlice, optInt, fillV, placeOf, thawed, del, isNilSlice, plain, plainL, cellsJ, junkOk, St.with, setSlots, setObs, wantedD, seqOf, noRange, setAll, Array.size, ty1, ti1, ty2, ti2, ty3, ti3, ty4, ti4, ty22, ti22, ty26, ti26, ty38, ti38, ty41, ti41, ty53, ti53, ty54, ti54, ty60, ti60, ty63, ti63, ty68, ti68, ty69, ti69, ty80, ti80, ty81, ti81, ty87, ti87, ty88, ti88, ty90, ti90, ty91, ti91, ty92, ti92, ty94, ti94, ty95, ti95, einl, inls]) ?_
  intro w
  have l1 : js.length = w.pre.length + w.post.length := by have := congrArg List.length w.hj; simpa using this
  have l2 : ks.length = w.pre.length + w.qost.length := by have := congrArg List.length w.hk; rw [List.length_append, ← w.hl] at this; exact this
  have t2 := okay_nonneg (okay_app (w.hj ▸ n3)).1
  cases hp : w.post with
  | nil =>
    have hc := w.hc
    rw [hp, expand_nil, cpl_nil_left] at hc
    have a1 : ¬ (w.pre.length : Int) < js.length := by rw [hp] at l1; simp at l1; omega
    simp (maxSteps := 1000000) (implicitDefEqProofs := false) only [a1, evRegion_st hk1, evRegion_st hk2, evRegion_st hk3, Try.ntmps86, Try.results86, efc86, fc86, ss, List.replicate, evOp, evPlain, evVal, evMem, St.eval, St.put, St.get, constV, List.set, lenV, sliceOf, arrayOf, fieldsOf, normOf, norm, firstRegion, look, maskFrom, evBin, evIndexS, evLoad, evVar, evStore, evFieldAddr, nameOf, St.alloc, St.drop, killL, kill, killAll, killObs, killOb, upd, cells?, part, retag, retagL, putIn, refFree, refFreeL, isNew, isNewL, Ty.isAgg, splice, idsL, ids, idsLL, reach, depth, St.dropL, resultsV, resultV, ↓reduceIte, Nat.reduceBEq, Nat.reduceAdd, Nat.reduceSub, Nat.reduceMul, Nat.reduceEqDiff, Nat.reduceLeDiff, Nat.reduceLT, effOf, effMem, effStore, effCall, effVar, effLit, effMake, effApp, Eff.ap, lend, evLit, evMake, evNil, freeze, onto, dropO, elemsV, sized, evCmp, eqT, eqG, minV, evUn, evField, evExtract, evIndexA, evIndexV, evSlice, optInt, fillV, placeOf, thawed, del, isNilSlice, plain, plainL, cellsJ, junkOk, St.with, setSlots, setObs, wantedD, seqOf, noRange, setAll, Array.size, ty1, ti1, ty2, ti2, ty3, ti3, ty4, ti4, ty22, ti22, ty26, ti26, ty38, ti38, ty41, ti41, ty53, ti53, ty54, ti54, ty60, ti60, ty63, ti63, ty68, ti68, ty69, ti69, ty80, ti80, ty81, ti81, ty87, ti87, ty88, ti88, ty90, ti90, ty91, ti91, ty92, ti92, ty94, ti94, ty95, ti95, einl, inls]
    simp [hc]
  | cons r post =>
    cases hq : w.qost with
    | nil =>
      have hc := w.hc
      rw [hq, expand_nil, cpl_nil_right] at hc
      have a1 : ¬ (w.pre.length : Int) < ks.length := by rw [hq] at l2; simp at l2; omega
      have a0 : (w.pre.length : Int) < js.length := by rw [hp] at l1; simp at l1; omega
      simp (maxSteps := 1000000) (implicitDefEqProofs := false) only [a0, a1, evRegion_st hk1, evRegion_st hk2, evRegion_st hk3, Try.ntmps86, Try.results86, efc86, fc86, ss, List.replicate, evOp, evPlain, evVal, evMem, St.eval, St.put, St.get, constV, List.set, lenV, sliceOf, arrayOf, fieldsOf, normOf, norm, firstRegion, look, maskFrom, evBin, evIndexS, evLoad, evVar, evStore, evFieldAddr, nameOf, St.alloc, St.drop, killL, kill, killAll, killObs, killOb, upd, cells?, part, retag, retagL, putIn, refFree, refFreeL, isNew, isNewL, Ty.isAgg, splice, idsL, ids, idsLL, reach, depth, St.dropL, resultsV, resultV, ↓reduceIte, Nat.reduceBEq, Nat.reduceAdd, Nat.reduceSub, Nat.reduceMul, Nat.reduceEqDiff, Nat.reduceLeDiff, Nat.reduceLT, effOf, effMem, effStore, effCall, effVar, effLit, effMake, effApp, Eff.ap, lend, evLit, evMake, evNil, freeze, onto, dropO, elemsV, sized, evCmp, eqT, eqG, minV, evUn, evField, evExtract, evIndexA, evIndexV, evSlice, optInt, fillV, placeOf, thawed, del, isNilSlice, plain, plainL, cellsJ, junkOk, St.with, setSlots, setObs, wantedD, seqOf, noRange, setAll, Array.size, ty1, ti1, ty2, ti2, ty3, ti3, ty4, ti4, ty22, ti22, ty26, ti26, ty38, ti38, ty41, ti41, ty53, ti53, ty54, ti54, ty60, ti60, ty63, ti63, ty68, ti68, ty69, ti69, ty80, ti80, ty81, ti81, ty87, ti87, ty88, ti88, ty90, ti90, ty91, ti91, ty92, ti92, ty94, ti94, ty95, ti95, einl, inls]
      simp [hc]
    | cons s qost =>
      obtain ⟨b1, b2, b3⟩ := walk_next w hp hq n3 m3
      rw [hp] at l1
      rw [hq] at l2
      simp only [List.length_cons] at l1 l2
      have a1 : (w.pre.length : Int) < js.length := by omega
      have a2 : (w.pre.length : Int) < ks.length := by omega
      have g1 : js[w.pre.length]? = some r := by
        have := w.hj
        rw [hp] at this
        have h5 := congrArg (fun l : List Run => l[w.pre.length]?) this
        simpa using h5
      have g2 : ks[w.pre.length]? = some s := by
        have := w.hk
        rw [hq] at this
        have h5 := congrArg (fun l : List Run => l[w.pre.length]?) this
        rw [w.hl] at h5 ⊢
        simpa using h5
      have r1 := okay_lens n3 r (List.mem_of_getElem? g1)
      have r2 := okay_lens m3 s (List.mem_of_getElem? g2)
      have t3 : total w.pre ≤ 40000000 := by
        have h5 := congrArg total w.hj
        rw [total_app] at h5
        have h6 := okay_nonneg (okay_app (w.hj ▸ n3)).2
        omega
      have w1 : IntKind.i64.wrap (total w.pre + min r.len s.len) = total w.pre + min r.len s.len := wrap_in (by omega)
      have w2 : IntKind.i64.wrap ((w.pre.length : Int) + 1) = (w.pre.length : Int) + 1 := wrap_in (by omega)
      have w3 : IntKind.i64.wrap (total w.pre + r.len) = total w.pre + r.len := wrap_in (by omega)
      have w4 : IntKind.i64.wrap (total w.pre + s.len) = total w.pre + s.len := wrap_in (by omega)
      by_cases hmk : r.mk' = s.mk'
      · have c1 : (r.thick == s.thick && (r.shade == s.shade && r.flaw == s.flaw)) = true := by rw [mk_eq]; simp [hmk]
        by_cases hlen : r.len = s.len
        · obtain ⟨w', e1, e2, e3⟩ := b3 hmk hlen
          have c2 : (r.len != s.len) = false := by simp [hlen]
          simp (maxSteps := 1000000) (implicitDefEqProofs := false) only [w1, w2, w3, w4, a1, a2, g1, g2, Int.natCast_nonneg, Int.toNat_natCast, List.getElem?_map, encRun, c1, c2, evRegion_st hk1, evRegion_st hk2, evRegion_st hk3, ss, List.replicate, evOp, evPlain, evVal, evMem, St.eval, St.put, St.get, constV, List.set, lenV, sliceOf, arrayOf, fieldsOf, normOf, norm, firstRegion, look, maskFrom, evBin, evIndexS, evLoad, evVar, evStore, evFieldAddr, nameOf, St.alloc, St.drop, killL, kill, killAll, killObs, killOb, upd, cells?, part, retag, retagL, putIn, refFree, refFreeL, isNew, isNewL, Ty.isAgg, splice, idsL, ids, idsLL, reach, depth, St.dropL, resultsV, resultV, ↓reduceIte, Nat.reduceBEq, Nat.reduceAdd, Nat.reduceSub, Nat.reduceMul, Nat.reduceEqDiff, Nat.reduceLeDiff, Nat.reduceLT, effOf, effMem, effStore, effCall, effVar, effLit, effMake, effApp, Eff.ap, lend, evLit, evMake, evNil, freeze, onto, dropO, elemsV, sized, evCmp, eqT, eqG, minV, evUn, evField, evExtract, evIndexA, evIndexV, evSlice, optInt, fillV, placeOf, thawed, del, isNilSlice, plain, plainL, cellsJ, junkOk, St.with, setSlots, setObs, wantedD, seqOf, noRange, setAll, Array.size, ty1, ti1, ty2, ti2, ty3, ti3, ty4, ti4, ty22, ti22, ty26, ti26, ty38, ti38, ty41, ti41, ty53, ti53, ty54, ti54, ty60, ti60, ty63, ti63, ty68, ti68, ty69, ti69, ty80, ti80, ty81, ti81, ty87, ti87, ty88, ti88, ty90, ti90, ty91, ti91, ty92, ti92, ty94, ti94, ty95, ti95, einl, inls]
          refine ⟨w', ?_, by rw [e2]; simp⟩
          rw [e1, total_app, total_cons, total_nil]
          simp [hlen]
        · have hb := b2 hmk hlen
          have c2 : (r.len != s.len) = true := by simp [hlen]
          by_cases hlt : r.len < s.len
          · simp (maxSteps := 1000000) (implicitDefEqProofs := false) only [w1, w2, w3, w4, a1, a2, g1, g2, Int.natCast_nonneg, Int.toNat_natCast, List.getElem?_map, encRun, c1, c2, hlt, evRegion_st hk1, evRegion_st hk2, evRegion_st hk3, Try.ntmps86, Try.results86, efc86, fc86, ss, List.replicate, evOp, evPlain, evVal, evMem, St.eval, St.put, St.get, constV, List.set, lenV, sliceOf, arrayOf, fieldsOf, normOf, norm, firstRegion, look, maskFrom, evBin, evIndexS, evLoad, evVar, evStore, evFieldAddr, nameOf, St.alloc, St.drop, killL, kill, killAll, killObs, killOb, upd, cells?, part, retag, retagL, putIn, refFree, refFreeL, isNew, isNewL, Ty.isAgg, splice, idsL, ids, idsLL, reach, depth, St.dropL, resultsV, resultV, ↓reduceIte, Nat.reduceBEq, Nat.reduceAdd, Nat.reduceSub, Nat.reduceMul, Nat.reduceEqDiff, Nat.reduceLeDiff, Nat.reduceLT, effOf, effMem, effStore, effCall, effVar, effLit, effMake, effApp, Eff.ap, lend, evLit, evMake, evNil, freeze, onto, dropO, elemsV, sized, evCmp, eqT, eqG, minV, evUn, evField, evExtract, evIndexA, evIndexV, evSlice, optInt, fillV, placeOf, thawed, del, isNilSlice, plain, plainL, cellsJ, junkOk, St.with, setSlots, setObs, wantedD, seqOf, noRange, setAll, Array.size, ty1, ti1, ty2, ti2, ty3, ti3, ty4, ti4, ty22, ti22, ty26, ti26, ty38, ti38, ty41, ti41, ty53, ti53, ty54, ti54, ty60, ti60, ty63, ti63, ty68, ti68, ty69, ti69, ty80, ti80, ty81, ti81, ty87, ti87, ty88, ti88, ty90, ti90, ty91, ti91, ty92, ti92, ty94, ti94, ty95, ti95, einl, inls]
            rw [hb, show min r.len s.len = r.len by omega]
          · simp (maxSteps := 1000000) (implicitDefEqProofs := false) only [w1, w2, w3, w4, a1, a2, g1, g2, Int.natCast_nonneg, Int.toNat_natCast, List.getElem?_map, encRun, c1, c2, hlt, evRegion_st hk1, evRegion_st hk2, evRegion_st hk3, Try.ntmps86, Try.results86, efc86, fc86, ss, List.replicate, evOp, evPlain, evVal, evMem, St.eval, St.put, St.get, constV, List.set, lenV, sliceOf, arrayOf, fieldsOf, normOf, norm, firstRegion, look, maskFrom, evBin, evIndexS, evLoad, evVar, evStore, evFieldAddr, nameOf, St.alloc, St.drop, killL, kill, killAll, killObs, killOb, upd, cells?, part, retag, retagL, putIn, refFree, refFreeL, isNew, isNewL, Ty.isAgg, splice, idsL, ids, idsLL, reach, depth, St.dropL, resultsV, resultV, ↓reduceIte, Nat.reduceBEq, Nat.reduceAdd, Nat.reduceSub, Nat.reduceMul, Nat.reduceEqDiff, Nat.reduceLeDiff, Nat.reduceLT, effOf, effMem, effStore, effCall, effVar, effLit, effMake, effApp, Eff.ap, lend, evLit, evMake, evNil, freeze, onto, dropO, elemsV, sized, evCmp, eqT, eqG, minV, evUn, evField, evExtract, evIndexA, evIndexV, evSlice, optInt, fillV, placeOf, thawed, del, isNilSlice, plain, plainL, cellsJ, junkOk, St.with, setSlots, setObs, wantedD, seqOf, noRange, setAll, Array.size, ty1, ti1, ty2, ti2, ty3, ti3, ty4, ti4, ty22, ti22, ty26, ti26, ty38, ti38, ty41, ti41, ty53, ti53, ty54, ti54, ty60, ti60, ty63, ti63, ty68, ti68, ty69, ti69, ty80, ti80, ty81, ti81, ty87, ti87, ty88, ti88, ty90, ti90, ty91, ti91, ty92, ti92, ty94, ti94, ty95, ti95, einl, inls]
            rw [hb, show min r.len s.len = s.len by omega]
      · have hb := b1 hmk
        have c1 : (r.thick == s.thick && (r.shade == s.shade && r.flaw == s.flaw)) = false := by rw [mk_eq]; simp [hmk]
        simp (maxSteps := 1000000) (implicitDefEqProofs := false) only [w1, w2, w3, w4, a1, a2, g1, g2, Int.natCast_nonneg, Int.toNat_natCast, List.getElem?_map, encRun, c1, evRegion_st hk1, evRegion_st hk2, evRegion_st hk3, Try.ntmps86, Try.results86, efc86, fc86, ss, List.replicate, evOp, evPlain, evVal, evMem, St.eval, St.put, St.get, constV, List.set, lenV, sliceOf, arrayOf, fieldsOf, normOf, norm, firstRegion, look, maskFrom, evBin, evIndexS, evLoad, evVar, evStore, evFieldAddr, nameOf, St.alloc, St.drop, killL, kill, killAll, killObs, killOb, upd, cells?, part, retag, retagL, putIn, refFree, refFreeL, isNew, isNewL, Ty.isAgg, splice, idsL, ids, idsLL, reach, depth, St.dropL, resultsV, resultV, ↓reduceIte, Nat.reduceBEq, Nat.reduceAdd, Nat.reduceSub, Nat.reduceMul, Nat.reduceEqDiff, Nat.reduceLeDiff, Nat.reduceLT, effOf, effMem, effStore, effCall, effVar, effLit, effMake, effApp, Eff.ap, lend, evLit, evMake, evNil, freeze, onto, dropO, elemsV, sized, evCmp, eqT, eqG, minV, evUn, evField, evExtract, evIndexA, evIndexV, evSlice, optInt, fillV, placeOf, thawed, del, isNilSlice, plain, plainL, cellsJ, junkOk, St.with, setSlots, setObs, wantedD, seqOf, noRange, setAll, Array.size, ty1, ti1, ty2, ti2, ty3, ti3, ty4, ti4, ty22, ti22, ty26, ti26, ty38, ti38, ty41, ti41, ty53, ti53, ty54, ti54, ty60, ti60, ty63, ti63, ty68, ti68, ty69, ti69, ty80, ti80, ty81, ti81, ty87, ti87, ty88, ti88, ty90, ti90, ty91, ti91, ty92, ti92, ty94, ti94, ty95, ti95, einl, inls]
        simp [hb]

def agreeM (xs ys : List Run) : Int × Int := if both xs ys = 0 then ((cpl (expand xs) (expand ys) : Nat), 0) else (0, both xs ys)

theorem c41 (xs ys : List Run) (hn : xs.length ≤ 100000) (hm : ys.length ≤ 100000) : (orcω E X0).call 41 [.sl false (xs.map encRun), .sl false (ys.map encRun)] = some (encLen (agreeM xs ys)) := by
  refine call_of rfl fn41 rfl ?_
  have h1 := c65 false false xs ys (by omega) (by omega)
  by_cases hv : both xs ys = 0
  · obtain ⟨v1, v2⟩ := both_zero hv
    have h2 := c78 xs ys (valid_okay v1).1 (valid_okay v2).1 hn hm
    rw [hv] at h1
    simp (maxSteps := 1000000) (implicitDefEqProofs := false) only [Try.ntmps41, Try.results41, efc41, h1, h2, bne_self_eq_false, ss, List.replicate, evOp, evPlain, evVal, evMem, St.eval, St.put, St.get, constV, List.set, lenV, sliceOf, arrayOf, fieldsOf, normOf, norm, firstRegion, look, maskFrom, evBin, evIndexS, evLoad, evVar, evStore, evFieldAddr, nameOf, St.alloc, St.drop, killL, kill, killAll, killObs, killOb, upd, cells?, part, retag, retagL, putIn, refFree, refFreeL, isNew, isNewL, Ty.isAgg, splice, idsL, ids, idsLL, reach, depth, St.dropL, resultsV, resultV, ↓reduceIte, Nat.reduceBEq, Nat.reduceAdd, Nat.reduceSub, Nat.reduceMul, Nat.reduceEqDiff, Nat.reduceLeDiff, Nat.reduceLT, effOf, effMem, effStore, effCall, effVar, effLit, effMake, effApp, Eff.ap, lend, evLit, evMake, evNil, freeze, onto, dropO, elemsV, sized, evCmp, eqT, eqG, minV, evUn, evField, evExtract, evIndexA, evIndexV, evSlice, optInt, fillV, placeOf, thawed, del, isNilSlice, plain, plainL, cellsJ, junkOk, St.with, setSlots, setObs, wantedD, seqOf, noRange, setAll, Array.size, ty1, ti1, ty2, ti2, ty3, ti3, ty4, ti4, ty22, ti22, ty26, ti26, ty38, ti38, ty41, ti41, ty53, ti53, ty54, ti54, ty60, ti60, ty63, ti63, ty68, ti68, ty69, ti69, ty80, ti80, ty81, ti81, ty87, ti87, ty88, ti88, ty90, ti90, ty91, ti91, ty92, ti92, ty94, ti94, ty95, ti95, einl, inls]
    simp [encLen, agreeM, hv]
  · have hv' : (both xs ys != 0) = true := by simp [hv]
    simp (maxSteps := 1000000) (implicitDefEqProofs := false) only [Try.ntmps41, Try.results41, efc41, h1, hv', ss, List.replicate, evOp, evPlain, evVal, evMem, St.eval, St.put, St.get, constV, List.set, lenV, sliceOf, arrayOf, fieldsOf, normOf, norm, firstRegion, look, maskFrom, evBin, evIndexS, evLoad, evVar, evStore, evFieldAddr, nameOf, St.alloc, St.drop, killL, kill, killAll, killObs, killOb, upd, cells?, part, retag, retagL, putIn, refFree, refFreeL, isNew, isNewL, Ty.isAgg, splice, idsL, ids, idsLL, reach, depth, St.dropL, resultsV, resultV, ↓reduceIte, Nat.reduceBEq, Nat.reduceAdd, Nat.reduceSub, Nat.reduceMul, Nat.reduceEqDiff, Nat.reduceLeDiff, Nat.reduceLT, effOf, effMem, effStore, effCall, effVar, effLit, effMake, effApp, Eff.ap, lend, evLit, evMake, evNil, freeze, onto, dropO, elemsV, sized, evCmp, eqT, eqG, minV, evUn, evField, evExtract, evIndexA, evIndexV, evSlice, optInt, fillV, placeOf, thawed, del, isNilSlice, plain, plainL, cellsJ, junkOk, St.with, setSlots, setObs, wantedD, seqOf, noRange, setAll, Array.size, ty1, ti1, ty2, ti2, ty3, ti3, ty4, ti4, ty22, ti22, ty26, ti26, ty38, ti38, ty41, ti41, ty53, ti53, ty54, ti54, ty60, ti60, ty63, ti63, ty68, ti68, ty69, ti69, ty80, ti80, ty81, ti81, ty87, ti87, ty88, ti88, ty90, ti90, ty91, ti91, ty92, ti92, ty94, ti94, ty95, ti95, einl, inls]
    simp [encLen, agreeM, hv]

theorem c56 (xs ys : List Run) (hn : xs.length ≤ 100000) (hm : ys.length ≤ 100000) : (orcω E X0).call 56 [.sl false (xs.map encRun), .sl false (ys.map encRun)] = some (encLen (agreeM xs ys)) := by
  refine call_of rfl fn56 rfl ?_
  have h1 := c67 false false xs ys (by omega) (by omega)
  by_cases hv : both xs ys = 0
  · obtain ⟨v1, v2⟩ := both_zero hv
    have h2 := c86 xs ys (valid_okay v1).1 (valid_okay v2).1 hn hm
    rw [hv] at h1
    simp (maxSteps := 1000000) (implicitDefEqProofs := false) only [Try.ntmps56, Try.results56, efc56, h1, h2, bne_self_eq_false, ss, List.replicate, evOp, evPlain, evVal, evMem, St.eval, St.put, St.get, constV, List.set, lenV, sliceOf, arrayOf, fieldsOf, normOf, norm, firstRegion, look, maskFrom, evBin, evIndexS, evLoad, evVar, evStore, evFieldAddr, nameOf, St.alloc, St.drop, killL, kill, killAll, killObs, killOb, upd, cells?, part, retag, retagL, putIn, refFree, refFreeL, isNew, isNewL, Ty.isAgg, splice, idsL, ids, idsLL, reach, depth, St.dropL, resultsV, resultV, ↓reduceIte, Nat.reduceBEq, Nat.reduceAdd, Nat.reduceSub, Nat.reduceMul, Nat.reduceEqDiff, Nat.reduceLeDiff, Nat.reduceLT, effOf, effMem, effStore, effCall, effVar, effLit, effMake, effApp, Eff.ap, lend, evLit, evMake, evNil, freeze, onto, dropO, elemsV, sized, evCmp, eqT, eqG, minV, evUn, evField, evExtract, evIndexA, evIndexV, evSlice, optInt, fillV, placeOf, thawed, del, isNilSlice, plain, plainL, cellsJ, junkOk, St.with, setSlots, setObs, wantedD, seqOf, noRange, setAll, Array.size, ty1, ti1, ty2, ti2, ty3, ti3, ty4, ti4, ty22, ti22, ty26, ti26, ty38, ti38, ty41, ti41, ty53, ti53, ty54, ti54, ty60, ti60, ty63, ti63, ty68, ti68, ty69, ti69, ty80, ti80, ty81, ti81, ty87, ti87, ty88, ti88, ty90, ti90, ty91, ti91, ty92, ti92, ty94, ti94, ty95, ti95, einl, inls]
    simp [encLen, agreeM, hv]
  · have hv' : (both xs ys != 0) = true := by simp [hv]
    simp (maxSteps := 1000000) (implicitDefEqProofs := false) only [Try.ntmps56, Try.results56, efc56, h1, hv', ss, List.replicate, evOp, evPlain, evVal, evMem, St.eval, St.put, St.get, constV, List.set, lenV, sliceOf, arrayOf, fieldsOf, normOf, norm, firstRegion, look, maskFrom, evBin, evIndexS, evLoad, evVar, evStore, evFieldAddr, nameOf, St.alloc, St.drop, killL, kill, killAll, killObs, killOb, upd, cells?, part, retag, retagL, putIn, refFree, refFreeL, isNew, isNewL, Ty.isAgg, splice, idsL, ids, idsLL, reach, depth, St.dropL, resultsV, resultV, ↓reduceIte, Nat.reduceBEq, Nat.reduceAdd, Nat.reduceSub, Nat.reduceMul, Nat.reduceEqDiff, Nat.reduceLeDiff, Nat.reduceLT, effOf, effMem, effStore, effCall, effVar, effLit, effMake, effApp, Eff.ap, lend, evLit, evMake, evNil, freeze, onto, dropO, elemsV, sized, evCmp, eqT, eqG, minV, evUn, evField, evExtract, evIndexA, evIndexV, evSlice, optInt, fillV, placeOf, thawed, del, isNilSlice, plain, plainL, cellsJ, junkOk, St.with, setSlots, setObs, wantedD, seqOf, noRange, setAll, Array.size, ty1, ti1, ty2, ti2, ty3, ti3, ty4, ti4, ty22, ti22, ty26, ti26, ty38, ti38, ty41, ti41, ty53, ti53, ty54, ti54, ty60, ti60, ty63, ti63, ty68, ti68, ty69, ti69, ty80, ti80, ty81, ti81, ty87, ti87, ty88, ti88, ty90, ti90, ty91, ti91, ty92, ti92, ty94, ti94, ty95, ti95, einl, inls]
    simp [encLen, agreeM, hv]

def sameM (xs ys : List Run) : Bool × Int := if both xs ys = 0 then (decide (expand xs = expand ys), 0) else (false, both xs ys)
def encSame (x : Bool × Int) : V := .tup [.bool x.1, .int .i64 x.2]

theorem same_iff_cpl {x y : List Mk} : decide (x = y) = (decide (x.length = y.length) && decide (cpl x y = x.length)) := by
  rw [Bool.eq_iff_iff]
  simp only [decide_eq_true_eq, Bool.and_eq_true]
  constructor
  · rintro rfl; exact ⟨rfl, cpl_self x⟩
  · rintro ⟨h1, h2⟩; exact cpl_all h2 (by omega)

theorem c39 (xs ys : List Run) (hn : xs.length ≤ 100000) (hm : ys.length ≤ 100000) : (orcω E X0).call 39 [.sl false (xs.map encRun), .sl false (ys.map encRun)] = some (encSame (sameM xs ys)) := by
  refine call_of rfl fn39 rfl ?_
  have h1 := c65 false false xs ys (by omega) (by omega)
  by_cases hv : both xs ys = 0
  · obtain ⟨v1, v2⟩ := both_zero hv
    have o1 := (valid_okay v1).1
    have o2 := (valid_okay v2).1
    have h2 := c78 xs ys o1 o2 hn hm
    have h3 := c61 false xs (by omega)
    have h4 := c61 false ys (by omega)
    rw [ln_total o1, ← expand_len o1] at h3
    rw [ln_total o2, ← expand_len o2] at h4
    rw [hv] at h1
    simp only [sameM, if_pos hv, same_iff_cpl]
    cases a1 : ((expand xs).length : Int) == (expand ys).length with
    | false =>
      simp (maxSteps := 1000000) (implicitDefEqProofs := false) only [Try.ntmps39, Try.results39, efc39, h1, h3, h4, a1, bne_self_eq_false, ss, List.replicate, evOp, evPlain, evVal, evMem, St.eval, St.put, St.get, constV, List.set, lenV, sliceOf, arrayOf, fieldsOf, normOf, norm, firstRegion, look, maskFrom, evBin, evIndexS, evLoad, evVar, evStore, evFieldAddr, nameOf, St.alloc, St.drop, killL, kill, killAll, killObs, killOb, upd, cells?, part, retag, retagL, putIn, refFree, refFreeL, isNew, isNewL, Ty.isAgg, splice, idsL, ids, idsLL, reach, depth, St.dropL, resultsV, resultV, ↓reduceIte, Nat.reduceBEq, Nat.reduceAdd, Nat.reduceSub, Nat.reduceMul, Nat.reduceEqDiff, Nat.reduceLeDiff, Nat.reduceLT, effOf, effMem, effStore, effCall, effVar, effLit, effMake, effApp, Eff.ap, lend, evLit, evMake, evNil, freeze, onto, dropO, elemsV, sized, evCmp, eqT, eqG, minV, evUn, evField, evExtract, evIndexA, evIndexV, evSlice, optInt, fillV, placeOf, thawed, del, isNilSlice, plain, plainL, cellsJ, junkOk, St.with, setSlots, setObs, wantedD, seqOf, noRange, setAll, Array.size, ty1, ti1, ty2, ti2, ty3, ti3, ty4, ti4, ty22, ti22, ty26, ti26, ty38, ti38, ty41, ti41, ty53, ti53, ty54, ti54, ty60, ti60, ty63, ti63, ty68, ti68, ty69, ti69, ty80, ti80, ty81, ti81, ty87, ti87, ty88, ti88, ty90, ti90, ty91, ti91, ty92, ti92, ty94, ti94, ty95, ti95, einl, inls]
      have : ¬ (expand xs).length = (expand ys).length := by simp at a1; omega
      simp [encSame, this]
    | true =>
      simp (maxSteps := 1000000) (implicitDefEqProofs := false) only [Try.ntmps39, Try.results39, efc39, h1, h2, h3, h4, a1, bne_self_eq_false, ss, List.replicate, evOp, evPlain, evVal, evMem, St.eval, St.put, St.get, constV, List.set, lenV, sliceOf, arrayOf, fieldsOf, normOf, norm, firstRegion, look, maskFrom, evBin, evIndexS, evLoad, evVar, evStore, evFieldAddr, nameOf, St.alloc, St.drop, killL, kill, killAll, killObs, killOb, upd, cells?, part, retag, retagL, putIn, refFree, refFreeL, isNew, isNewL, Ty.isAgg, splice, idsL, ids, idsLL, reach, depth, St.dropL, resultsV, resultV, ↓reduceIte, Nat.reduceBEq, Nat.reduceAdd, Nat.reduceSub, Nat.reduceMul, Nat.reduceEqDiff, Nat.reduceLeDiff, Nat.reduceLT, effOf, effMem, effStore, effCall, effVar, effLit, effMake, effApp, Eff.ap, lend, evLit, evMake, evNil, freeze, onto, dropO, elemsV, sized, evCmp, eqT, eqG, minV, evUn, evField, evExtract, evIndexA, evIndexV, evSlice, optInt, fillV, placeOf, thawed, del, isNilSlice, plain, plainL, cellsJ, junkOk, St.with, setSlots, setObs, wantedD, seqOf, noRange, setAll, Array.size, ty1, ti1, ty2, ti2, ty3, ti3, ty4, ti4, ty22, ti22, ty26, ti26, ty38, ti38, ty41, ti41, ty53, ti53, ty54, ti54, ty60, ti60, ty63, ti63, ty68, ti68, ty69, ti69, ty80, ti80, ty81, ti81, ty87, ti87, ty88, ti88, ty90, ti90, ty91, ti91, ty92, ti92, ty94, ti94, ty95, ti95, einl, inls]
      have : (expand xs).length = (expand ys).length := by simp at a1; omega
      simp only [encSame, this, decide_true, Bool.true_and]
      rw [Bool.eq_iff_iff.2 (show (((cpl (expand xs) (expand ys) : Nat) : Int) == ((expand ys).length : Int)) = true ↔ decide (cpl (expand xs) (expand ys) = (expand ys).length) = true by simp only [beq_iff_eq, decide_eq_true_eq]; omega)]
  · have hv' : (both xs ys != 0) = true := by simp [hv]
    simp (maxSteps := 1000000) (implicitDefEqProofs := false) only [Try.ntmps39, Try.results39, efc39, h1, hv', ss, List.replicate, evOp, evPlain, evVal, evMem, St.eval, St.put, St.get, constV, List.set, lenV, sliceOf, arrayOf, fieldsOf, normOf, norm, firstRegion, look, maskFrom, evBin, evIndexS, evLoad, evVar, evStore, evFieldAddr, nameOf, St.alloc, St.drop, killL, kill, killAll, killObs, killOb, upd, cells?, part, retag, retagL, putIn, refFree, refFreeL, isNew, isNewL, Ty.isAgg, splice, idsL, ids, idsLL, reach, depth, St.dropL, resultsV, resultV, ↓reduceIte, Nat.reduceBEq, Nat.reduceAdd, Nat.reduceSub, Nat.reduceMul, Nat.reduceEqDiff, Nat.reduceLeDiff, Nat.reduceLT, effOf, effMem, effStore, effCall, effVar, effLit, effMake, effApp, Eff.ap, lend, evLit, evMake, evNil, freeze, onto, dropO, elemsV, sized, evCmp, eqT, eqG, minV, evUn, evField, evExtract, evIndexA, evIndexV, evSlice, optInt, fillV, placeOf, thawed, del, isNilSlice, plain, plainL, cellsJ, junkOk, St.with, setSlots, setObs, wantedD, seqOf, noRange, setAll, Array.size, ty1, ti1, ty2, ti2, ty3, ti3, ty4, ti4, ty22, ti22, ty26, ti26, ty38, ti38, ty41, ti41, ty53, ti53, ty54, ti54, ty60, ti60, ty63, ti63, ty68, ti68, ty69, ti69, ty80, ti80, ty81, ti81, ty87, ti87, ty88, ti88, ty90, ti90, ty91, ti91, ty92, ti92, ty94, ti94, ty95, ti95, einl, inls]
    simp [encSame, sameM, hv]

theorem c40 (xs ys : List Run) (hn : xs.length ≤ 100000) (hm : ys.length ≤ 100000) : (orcω E X0).call 40 [.sl false (xs.map encRun), .sl false (ys.map encRun)] = some (encSame (sameM xs ys)) := by
  refine call_of rfl fn40 rfl ?_
  have h1 := c67 false false xs ys (by omega) (by omega)
  by_cases hv : both xs ys = 0
  · obtain ⟨v1, v2⟩ := both_zero hv
    have o1 := (valid_okay v1).1
    have o2 := (valid_okay v2).1
    have h2 := c76 false xs (by omega)
    have h3 := c76 false ys (by omega)
    rw [joinR_eq (valid_pos v1)] at h2
    rw [joinR_eq (valid_pos v2)] at h3
    have k1 := joined_normal o1
    have k2 := joined_normal o2
    have h4 := c25 false false (joinedL xs) (joinedL ys) (by omega)
    rw [hv] at h1
    have e1 := expand_len o1
    have e2 := expand_len o2
    have t1 := o1.2
    have t2 := o2.2
    have e3 : (joinedL xs = joinedL ys) ↔ (expand xs = expand ys) := ⟨fun h => by rw [← k1.2.1, ← k2.2.1, h], fun h => by rw [joined_rle o1.1 (by omega), joined_rle o2.1 (by omega), h]⟩
    simp (maxSteps := 1000000) (implicitDefEqProofs := false) only [Try.ntmps40, Try.results40, efc40, h1, h2, h3, h4, bne_self_eq_false, ss, List.replicate, evOp, evPlain, evVal, evMem, St.eval, St.put, St.get, constV, List.set, lenV, sliceOf, arrayOf, fieldsOf, normOf, norm, firstRegion, look, maskFrom, evBin, evIndexS, evLoad, evVar, evStore, evFieldAddr, nameOf, St.alloc, St.drop, killL, kill, killAll, killObs, killOb, upd, cells?, part, retag, retagL, putIn, refFree, refFreeL, isNew, isNewL, Ty.isAgg, splice, idsL, ids, idsLL, reach, depth, St.dropL, resultsV, resultV, ↓reduceIte, Nat.reduceBEq, Nat.reduceAdd, Nat.reduceSub, Nat.reduceMul, Nat.reduceEqDiff, Nat.reduceLeDiff, Nat.reduceLT, effOf, effMem, effStore, effCall, effVar, effLit, effMake, effApp, Eff.ap, lend, evLit, evMake, evNil, freeze, onto, dropO, elemsV, sized, evCmp, eqT, eqG, minV, evUn, evField, evExtract, evIndexA, evIndexV, evSlice, optInt, fillV, placeOf, thawed, del, isNilSlice, plain, plainL, cellsJ, junkOk, St.with, setSlots, setObs, wantedD, seqOf, noRange, setAll, Array.size, ty1, ti1, ty2, ti2, ty3, ti3, ty4, ti4, ty22, ti22, ty26, ti26, ty38, ti38, ty41, ti41, ty53, ti53, ty54, ti54, ty60, ti60, ty63, ti63, ty68, ti68, ty69, ti69, ty80, ti80, ty81, ti81, ty87, ti87, ty88, ti88, ty90, ti90, ty91, ti91, ty92, ti92, ty94, ti94, ty95, ti95, einl, inls]
    simp [encSame, sameM, hv, e3]
  · have hv' : (both xs ys != 0) = true := by simp [hv]
    simp (maxSteps := 1000000) (implicitDefEqProofs := false) only [Try.ntmps40, Try.results40, efc40, h1, hv', ss, List.replicate, evOp, evPlain, evVal, evMem, St.eval, St.put, St.get, constV, List.set, lenV, sliceOf, arrayOf, fieldsOf, normOf, norm, firstRegion, look, maskFrom, evBin, evIndexS, evLoad, evVar, evStore, evFieldAddr, nameOf, St.alloc, St.drop, killL, kill, killAll, killObs, killOb, upd, cells?, part, retag, retagL, putIn, refFree, refFreeL, isNew, isNewL, Ty.isAgg, splice, idsL, ids, idsLL, reach, depth, St.dropL, resultsV, resultV, ↓reduceIte, Nat.reduceBEq, Nat.reduceAdd, Nat.reduceSub, Nat.reduceMul, Nat.reduceEqDiff, Nat.reduceLeDiff, Nat.reduceLT, effOf, effMem, effStore, effCall, effVar, effLit, effMake, effApp, Eff.ap, lend, evLit, evMake, evNil, freeze, onto, dropO, elemsV, sized, evCmp, eqT, eqG, minV, evUn, evField, evExtract, evIndexA, evIndexV, evSlice, optInt, fillV, placeOf, thawed, del, isNilSlice, plain, plainL, cellsJ, junkOk, St.with, setSlots, setObs, wantedD, seqOf, noRange, setAll, Array.size, ty1, ti1, ty2, ti2, ty3, ti3, ty4, ti4, ty22, ti22, ty26, ti26, ty38, ti38, ty41, ti41, ty53, ti53, ty54, ti54, ty60, ti60, ty63, ti63, ty68, ti68, ty69, ti69, ty80, ti80, ty81, ti81, ty87, ti87, ty88, ti88, ty90, ti90, ty91, ti91, ty92, ti92, ty94, ti94, ty95, ti95, einl, inls]
    simp [encSame, sameM, hv]

theorem c8 (xs ys : List Run) : (orcω E X0).call 8 [.sl false (xs.map encRun), .sl false (ys.map encRun)] = some (.bool true) := by
  refine call_of rfl fn8 rfl ?_
  have k1 := c16 false xs
  have k2 := c16 false ys
  by_cases hx : (100 : Int) < xs.length
  · simp only [hx, decide_true] at k1
    simp (maxSteps := 1000000) (implicitDefEqProofs := false) only [Try.ntmps8, Try.results8, efc8, k1, c17, ss, List.replicate, evOp, evPlain, evVal, evMem, St.eval, St.put, St.get, constV, List.set, lenV, sliceOf, arrayOf, fieldsOf, normOf, norm, firstRegion, look, maskFrom, evBin, evIndexS, evLoad, evVar, evStore, evFieldAddr, nameOf, St.alloc, St.drop, killL, kill, killAll, killObs, killOb, upd, cells?, part, retag, retagL, putIn, refFree, refFreeL, isNew, isNewL, Ty.isAgg, splice, idsL, ids, idsLL, reach, depth, St.dropL, resultsV, resultV, ↓reduceIte, Nat.reduceBEq, Nat.reduceAdd, Nat.reduceSub, Nat.reduceMul, Nat.reduceEqDiff, Nat.reduceLeDiff, Nat.reduceLT, effOf, effMem, effStore, effCall, effVar, effLit, effMake, effApp, Eff.ap, lend, evLit, evMake, evNil, freeze, onto, dropO, elemsV, sized, evCmp, eqT, eqG, minV, evUn, evField, evExtract, evIndexA, evIndexV, evSlice, optInt, fillV, placeOf, thawed, del, isNilSlice, plain, plainL, cellsJ, junkOk, St.with, setSlots, setObs, wantedD, seqOf, noRange, setAll, Array.size, ty1, ti1, ty2, ti2, ty3, ti3, ty4, ti4, ty22, ti22, ty26, ti26, ty38, ti38, ty41, ti41, ty53, ti53, ty54, ti54, ty60, ti60, ty63, ti63, ty68, ti68, ty69, ti69, ty80, ti80, ty81, ti81, ty87, ti87, ty88, ti88, ty90, ti90, ty91, ti91, ty92, ti92, ty94, ti94, ty95, ti95, einl, inls]
  by_cases hy : (100 : Int) < ys.length
  · simp only [hx, hy, decide_true, decide_false] at k1 k2
    simp (maxSteps := 1000000) (implicitDefEqProofs := false) only [Try.ntmps8, Try.results8, efc8, k1, k2, c17, ss, List.replicate, evOp, evPlain, evVal, evMem, St.eval, St.put, St.get, constV, List.set, lenV, sliceOf, arrayOf, fieldsOf, normOf, norm, firstRegion, look, maskFrom, evBin, evIndexS, evLoad, evVar, evStore, evFieldAddr, nameOf, St.alloc, St.drop, killL, kill, killAll, killObs, killOb, upd, cells?, part, retag, retagL, putIn, refFree, refFreeL, isNew, isNewL, Ty.isAgg, splice, idsL, ids, idsLL, reach, depth, St.dropL, resultsV, resultV, ↓reduceIte, Nat.reduceBEq, Nat.reduceAdd, Nat.reduceSub, Nat.reduceMul, Nat.reduceEqDiff, Nat.reduceLeDiff, Nat.reduceLT, effOf, effMem, effStore, effCall, effVar, effLit, effMake, effApp, Eff.ap, lend, evLit, evMake, evNil, freeze, onto, dropO, elemsV, sized, evCmp, eqT, eqG, minV, evUn, evField, evExtract, evIndexA, evIndexV, evSlice, optInt, fillV, placeOf, thawed, del, isNilSlice, plain, plainL, cellsJ, junkOk, St.with, setSlots, setObs, wantedD, seqOf, noRange, setAll, Array.size, ty1, ti1, ty2, ti2, ty3, ti3, ty4, ti4, ty22, ti22, ty26, ti26, ty38, ti38, ty41, ti41, ty53, ti53, ty54, ti54, ty60, ti60, ty63, ti63, ty68, ti68, ty69, ti69, ty80, ti80, ty81, ti81, ty87, ti87, ty88, ti88, ty90, ti90, ty91, ti91, ty92, ti92, ty94, ti94, ty95, ti95, einl, inls]
  simp only [hx, hy, decide_false] at k1 k2
  have k3 := c39 xs ys (by omega) (by omega)
  have k4 := c40 xs ys (by omega) (by omega)
  have k5 := c41 xs ys (by omega) (by omega)
  have k6 := c21 false xs (by omega)
  have k7 := c21 false ys (by omega)
  by_cases hv : both xs ys = 0
  · obtain ⟨v1, v2⟩ := both_zero hv
    have o1 := (valid_okay v1).1
    have o2 := (valid_okay v2).1
    simp only [sameM, agreeM, if_pos hv, encSame, encLen, lengthM, if_pos v1, if_pos v2, ln_total o1, ln_total o2, ← expand_len o1, ← expand_len o2] at k3 k4 k5 k6 k7
    have e1 : ∀ b : Bool, (b != b) = false := by simp
    have e2 : (decide (expand xs = expand ys) == (((cpl (expand xs) (expand ys) : Nat) : Int) == ((expand xs).length : Int) && ((cpl (expand xs) (expand ys) : Nat) : Int) == ((expand ys).length : Int))) = true := by
      rw [same_iff_cpl, beq_iff_eq, Bool.eq_iff_iff]
      simp only [Bool.and_eq_true, decide_eq_true_eq, beq_iff_eq]
      omega
    cases a1 : ((cpl (expand xs) (expand ys) : Nat) : Int) == ((expand xs).length : Int) with
    | false =>
      rw [a1, Bool.false_and] at e2
      simp (maxSteps := 1000000) (implicitDefEqProofs := false) only [Try.ntmps8, Try.results8, efc8, k1, k2, k3, k4, k5, k6, k7, e1, a1, e2, bne_self_eq_false, beq_self_eq_true, c17, ss, List.replicate, evOp, evPlain, evVal, evMem, St.eval, St.put, St.get, constV, List.set, lenV, sliceOf, arrayOf, fieldsOf, normOf, norm, firstRegion, look, maskFrom, evBin, evIndexS, evLoad, evVar, evStore, evFieldAddr, nameOf, St.alloc, St.drop, killL, kill, killAll, killObs, killOb, upd, cells?, part, retag, retagL, putIn, refFree, refFreeL, isNew, isNewL, Ty.isAgg, splice, idsL, ids, idsLL, reach, depth, St.dropL, resultsV, resultV, ↓reduceIte, Nat.reduceBEq, Nat.reduceAdd, Nat.reduceSub, Nat.reduceMul, Nat.reduceEqDiff, Nat.reduceLeDiff, Nat.reduceLT, effOf, effMem, effStore, effCall, effVar, effLit, effMake, effApp, Eff.ap, lend, evLit, evMake, evNil, freeze, onto, dropO, elemsV, sized, evCmp, eqT, eqG, minV, evUn, evField, evExtract, evIndexA, evIndexV, evSlice, optInt, fillV, placeOf, thawed, del, isNilSlice, plain, plainL, cellsJ, junkOk, St.with, setSlots, setObs, wantedD, seqOf, noRange, setAll, Array.size, ty1, ti1, ty2, ti2, ty3, ti3, ty4, ti4, ty22, ti22, ty26, ti26, ty38, ti38, ty41, ti41, ty53, ti53, ty54, ti54, ty60, ti60, ty63, ti63, ty68, ti68, ty69, ti69, ty80, ti80, ty81, ti81, ty87, ti87, ty88, ti88, ty90, ti90, ty91, ti91, ty92, ti92, ty94, ti94, ty95, ti95, einl, inls]
    | true =>
      rw [a1, Bool.true_and] at e2
      simp (maxSteps := 1000000) (implicitDefEqProofs := false) only [Try.ntmps8, Try.results8, efc8, k1, k2, k3, k4, k5, k6, k7, e1, a1, e2, bne_self_eq_false, beq_self_eq_true, c17, ss, List.replicate, evOp, evPlain, evVal, evMem, St.eval, St.put, St.get, constV, List.set, lenV, sliceOf, arrayOf, fieldsOf, normOf, norm, firstRegion, look, maskFrom, evBin, evIndexS, evLoad, evVar, evStore, evFieldAddr, nameOf, St.alloc, St.drop, killL, kill, killAll, killObs, killOb, upd, cells?, part, retag, retagL, putIn, refFree, refFreeL, isNew, isNewL, Ty.isAgg, splice, idsL, ids, idsLL, reach, depth, St.dropL, resultsV, resultV, ↓reduceIte, Nat.reduceBEq, Nat.reduceAdd, Nat.reduceSub, Nat.reduceMul, Nat.reduceEqDiff, Nat.reduceLeDiff, Nat.reduceLT, effOf, effMem, effStore, effCall, effVar, effLit, effMake, effApp, Eff.ap, lend, evLit, evMake, evNil, freeze, onto, dropO, elemsV, sized, evCmp, eqT, eqG, minV, evUn, evField, evExtract, evIndexA, evIndexV, evSlice, optInt, fillV, placeOf, thawed, del, isNilSlice, plain, plainL, cellsJ, junkOk, St.with, setSlots, setObs, wantedD, seqOf, noRange, setAll, Array.size, ty1, ti1, ty2, ti2, ty3, ti3, ty4, ti4, ty22, ti22, ty26, ti26, ty38, ti38, ty41, ti41, ty53, ti53, ty54, ti54, ty60, ti60, ty63, ti63, ty68, ti68, ty69, ti69, ty80, ti80, ty81, ti81, ty87, ti87, ty88, ti88, ty90, ti90, ty91, ti91, ty92, ti92, ty94, ti94, ty95, ti95, einl, inls]
  · have hv' : (both xs ys != 0) = true := by simp [hv]
    simp only [sameM, agreeM, if_neg hv, encSame, encLen] at k3 k4 k5 k6 k7
    simp (maxSteps := 1000000) (implicitDefEqProofs := false) only [Try.ntmps8, Try.results8, efc8, k1, k2, k3, k4, k5, k6, k7, hv', bne_self_eq_false, beq_self_eq_true, c17, ss, List.replicate, evOp, evPlain, evVal, evMem, St.eval, St.put, St.get, constV, List.set, lenV, sliceOf, arrayOf, fieldsOf, normOf, norm, firstRegion, look, maskFrom, evBin, evIndexS, evLoad, evVar, evStore, evFieldAddr, nameOf, St.alloc, St.drop, killL, kill, killAll, killObs, killOb, upd, cells?, part, retag, retagL, putIn, refFree, refFreeL, isNew, isNewL, Ty.isAgg, splice, idsL, ids, idsLL, reach, depth, St.dropL, resultsV, resultV, ↓reduceIte, Nat.reduceBEq, Nat.reduceAdd, Nat.reduceSub, Nat.reduceMul, Nat.reduceEqDiff, Nat.reduceLeDiff, Nat.reduceLT, effOf, effMem, effStore, effCall, effVar, effLit, effMake, effApp, Eff.ap, lend, evLit, evMake, evNil, freeze, onto, dropO, elemsV, sized, evCmp, eqT, eqG, minV, evUn, evField, evExtract, evIndexA, evIndexV, evSlice, optInt, fillV, placeOf, thawed, del, isNilSlice, plain, plainL, cellsJ, junkOk, St.with, setSlots, setObs, wantedD, seqOf, noRange, setAll, Array.size, ty1, ti1, ty2, ti2, ty3, ti3, ty4, ti4, ty22, ti22, ty26, ti26, ty38, ti38, ty41, ti41, ty53, ti53, ty54, ti54, ty60, ti60, ty63, ti63, ty68, ti68, ty69, ti69, ty80, ti80, ty81, ti81, ty87, ti87, ty88, ti88, ty90, ti90, ty91, ti91, ty92, ti92, ty94, ti94, ty95, ti95, einl, inls]

end Go.AM.A
