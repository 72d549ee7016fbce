import Derived.Test.YtdipdaajicceoaaABandM
set_option linter.unusedSimpArgs false
namespace Go.AM.A
open Go Go.Proofs

theorem c74 (rs : List Run) (p : Int) (ho : Okay rs) (hn : rs.length ≤ 100000) (h0 : 0 ≤ p) (h1 : p < total rs) : ∃ m, (expand rs)[p.toNat]? = some m ∧ (orcω E X0).call 74 [.sl false (rs.map encRun), .int .i64 p] = some (encMk m) := by
  have hlen := expand_len ho
  obtain ⟨m, hm⟩ : ∃ m, (expand rs)[p.toNat]? = some m := ⟨_, List.getElem?_eq_getElem (by omega)⟩
  refine ⟨m, hm, ?_⟩
  have htot := ho.2
  refine call_of rfl fn74 rfl ?_
  simp (maxSteps := 1000000) (implicitDefEqProofs := false) only [Try.ntmps74, Try.results74, efc74, fc74, ss, List.replicate, evOp, evPlain, evVal, evMem, St.eval, St.put, St.get, constV, List.set, lenV, sliceOf, arrayOf, fieldsOf, normOf, norm, firstRegion, look, maskFrom, evBin, evIndexS, evLoad, evVar, evStore, evFieldAddr, nameOf, St.alloc, St.drop, killL, kill, killAll, killObs, killOb, upd, cells?, part, retag, retagL, putIn, refFree, refFreeL, isNew, isNewL, Ty.isAgg, splice, idsL, ids, idsLL, reach, depth, St.dropL, resultsV, resultV, ↓reduceIte, Nat.reduceBEq, Nat.reduceAdd, Nat.reduceSub, Nat.reduceMul, Nat.reduceEqDiff, Nat.reduceLeDiff, Nat.reduceLT, effOf, effMem, effStore, effCall, effVar, effLit, effMake, effApp, Eff.ap, lend, evLit, evMake, evNil, freeze, onto, dropO, elemsV, sized, evCmp, eqT, eqG, minV, evUn, evField, evExtract, evIndexA, evIndexV, evSlice, optInt, fillV, placeOf, thawed, del, isNilSlice, plain, plainL, cellsJ, junkOk, St.with, setSlots, setObs, wantedD, seqOf, noRange, setAll, Array.size, ty1, ti1, ty2, ti2, ty3, ti3, ty4, ti4, ty22, ti22, ty26, ti26, ty38, ti38, ty41, ti41, ty53, ti53, ty54, ti54, ty60, ti60, ty63, ti63, ty68, ti68, ty69, ti69, ty80, ti80, ty81, ti81, ty87, ti87, ty88, ti88, ty90, ti90, ty91, ti91, ty92, ti92, ty94, ti94, ty95, ti95, einl, inls]
  generalize hr : loopAt _ _ _ _ _ _ = r; revert r
  refine loop_inv (ι := { x : List Run × List Run // rs = x.1 ++ x.2 ∧ total x.1 ≤ p }) (fun i => [(1, .int .i64 (p - total i.1.1)), (5, .int .i64 i.1.1.length)]) (fun i => [(4, { es := 3, flat := true, t := true, app := false, elems := [encMk mk0] })])
    (fun i => i.1.2.length) ⟨([], rs), rfl, h0⟩ (by simp (maxSteps := 1000000) (implicitDefEqProofs := false) only [total_nil, Int.sub_zero, encMk, mk0, ss, List.replicate, evOp, evPlain, evVal, evMem, St.eval, St.put, St.get, constV, List.set, lenV, sliceOf, arrayOf, fieldsOf, normOf, norm, firstRegion, look, maskFrom, evBin, evIndexS, evLoad, evVar, evStore, evFieldAddr, nameOf, St.alloc, St.drop, killL, kill, killAll, killObs, killOb, upd, cells?, part, retag, retagL, putIn, refFree, refFreeL, isNew, isNewL, Ty.isAgg, splice, idsL, ids, idsLL, reach, depth, St.dropL, resultsV, resultV, ↓reduceIte, Nat.reduceBEq, Nat.reduceAdd, Nat.reduceSub, Nat.reduceMul, Nat.reduceEqDiff, Nat.reduceLeDiff, Nat.reduceLT, effOf, effMem, effStore, effCall, effVar, effLit, effMake, effApp, Eff.ap, lend, evLit, evMake, evNil, freeze, onto, dropO, elemsV, sized, evCmp, eqT, eqG, minV, evUn, evField, evExtract, evIndexA, evIndexV, evSlice, optInt, fillV, placeOf, thawed, del, isNilSlice, plain, plainL, cellsJ, junkOk, St.with, setSlots, setObs, wantedD, seqOf, noRange, setAll, Array.size, ty1, ti1, ty2, ti2, ty3, ti3, ty4, ti4, ty22, ti22, ty26, ti26, ty38, ti38, ty41, ti41, ty53, ti53, ty54, ti54, ty60, ti60, ty63, ti63, ty68, ti68, ty69, ti69, ty80, ti80, ty81, ti81, ty87, ti87, ty88, ti88, ty90, ti90, ty91, ti91, ty92, ti92, ty94, ti94, ty95, ti95, einl, inls]) ?_
  rintro ⟨⟨pre, post⟩, hp, ht⟩
  dsimp only at hp ht ⊢
  cases post with
  | nil =>
    exfalso
    rw [hp, List.append_nil] at h1
    omega
  | cons r post =>
    have hget : rs[pre.length]? = some r := by subst hp; simp
    have hl : pre.length + 1 ≤ rs.length := by subst hp; simp
    have h7 := okay_lens ho r (by rw [hp]; simp)
    have h6 := okay_nonneg (okay_app (hp ▸ ho)).1
    have e3 : total (pre ++ [r]) = total pre + r.len := by rw [total_app, total_cons, total_nil]; omega
    simp (maxSteps := 1000000) (implicitDefEqProofs := false) (disch := omega) only [hget, Int.natCast_nonneg, Int.toNat_natCast, List.getElem?_map, encRun, wrap_in, ss, List.replicate, evOp, evPlain, evVal, evMem, St.eval, St.put, St.get, constV, List.set, lenV, sliceOf, arrayOf, fieldsOf, normOf, norm, firstRegion, look, maskFrom, evBin, evIndexS, evLoad, evVar, evStore, evFieldAddr, nameOf, St.alloc, St.drop, killL, kill, killAll, killObs, killOb, upd, cells?, part, retag, retagL, putIn, refFree, refFreeL, isNew, isNewL, Ty.isAgg, splice, idsL, ids, idsLL, reach, depth, St.dropL, resultsV, resultV, ↓reduceIte, Nat.reduceBEq, Nat.reduceAdd, Nat.reduceSub, Nat.reduceMul, Nat.reduceEqDiff, Nat.reduceLeDiff, Nat.reduceLT, effOf, effMem, effStore, effCall, effVar, effLit, effMake, effApp, Eff.ap, lend, evLit, evMake, evNil, freeze, onto, dropO, elemsV, sized, evCmp, eqT, eqG, minV, evUn, evField, evExtract, evIndexA, evIndexV, evSlice, optInt, fillV, placeOf, thawed, del, isNilSlice, plain, plainL, cellsJ, junkOk, St.with, setSlots, setObs, wantedD, seqOf, noRange, setAll, Array.size, ty1, ti1, ty2, ti2, ty3, ti3, ty4, ti4, ty22, ti22, ty26, ti26, ty38, ti38, ty41, ti41, ty53, ti53, ty54, ti54, ty60, ti60, ty63, ti63, ty68, ti68, ty69, ti69, ty80, ti80, ty81, ti81, ty87, ti87, ty88, ti88, ty90, ti90, ty91, ti91, ty92, ti92, ty94, ti94, ty95, ti95, einl, inls]
    (repeat' (rewrite [ask_to]; generalize hb : ask2 _ = w; rcases ask_cases hb with ⟨hc, rfl⟩ | ⟨hc, rfl⟩ <;> clear hb <;> (try simp (maxSteps := 1000000) (implicitDefEqProofs := false) (disch := omega) only [hget, Int.natCast_nonneg, Int.toNat_natCast, List.getElem?_map, encRun, encMk, mk0, Try.ntmps74, Try.results74, efc74, fc74, wrap_in, ss, List.replicate, evOp, evPlain, evVal, evMem, St.eval, St.put, St.get, constV, List.set, lenV, sliceOf, arrayOf, fieldsOf, normOf, norm, firstRegion, look, maskFrom, evBin, evIndexS, evLoad, evVar, evStore, evFieldAddr, nameOf, St.alloc, St.drop, killL, kill, killAll, killObs, killOb, upd, cells?, part, retag, retagL, putIn, refFree, refFreeL, isNew, isNewL, Ty.isAgg, splice, idsL, ids, idsLL, reach, depth, St.dropL, resultsV, resultV, ↓reduceIte, Nat.reduceBEq, Nat.reduceAdd, Nat.reduceSub, Nat.reduceMul, Nat.reduceEqDiff, Nat.reduceLeDiff, Nat.reduceLT, effOf, effMem, effStore, effCall, effVar, effLit, effMake, effApp, Eff.ap, lend, evLit, evMake, evNil, freeze, onto, dropO, elemsV, sized, evCmp, eqT, eqG, minV, evUn, evField, evExtract, evIndexA, evIndexV, evSlice, optInt, fillV, placeOf, thawed, del, isNilSlice, plain, plainL, cellsJ, junkOk, St.with, setSlots, setObs, wantedD, seqOf, noRange, setAll, Array.size, ty1, ti1, ty2, ti2, ty3, ti3, ty4, ti4, ty22, ti22, ty26, ti26, ty38, ti38, ty41, ti41, ty53, ti53, ty54, ti54, ty60, ti60, ty63, ti63, ty68, ti68, ty69, ti69, ty80, ti80, ty81, ti81, ty87, ti87, ty88, ti88, ty90, ti90, ty91, ti91, ty92, ti92, ty94, ti94, ty95, ti95, einl, inls])))
    all_goals simp only [decide_eq_true_eq, decide_eq_false_iff_not] at *
    · refine ⟨⟨(pre ++ [r], post), by simpa using hp, by dsimp only; omega⟩, ?_, by simp⟩
      simp [e3, encMk, mk0]
      omega
    · have := expand_get (k := p) (hp ▸ ho) ht (by omega)
      rw [← hp, hm] at this
      cases this
      simp [Run.mk']

theorem c34 (rs : List Run) (p : Int) (hn : rs.length ≤ 100000) : (orcω E X0).call 34 [.sl false (rs.map encRun), .int .i64 p] = some (encAt (atM rs p)) := by
  refine call_of rfl fn34 rfl ?_
  have h1 := c24 false rs (by omega)
  have h2 := c62 false rs (by omega)
  by_cases hv : validate rs = 0
  · have ho := (valid_okay hv).1
    rw [ln_total ho] at h2
    rw [hv] at h1
    by_cases h3 : 0 ≤ p ∧ p < total rs
    · obtain ⟨m, h4, h5⟩ := c74 rs p ho hn h3.1 h3.2
      have a1 : ¬ p < 0 := by omega
      have a2 : ¬ total rs ≤ p := by omega
      simp only [encMk] at h5
      simp (maxSteps := 1000000) (implicitDefEqProofs := false) only [Try.ntmps34, Try.results34, efc34, h1, h2, a1, a2, h5, bne_self_eq_false, ss, List.replicate, evOp, evPlain, evVal, evMem, St.eval, St.put, St.get, constV, List.set, lenV, sliceOf, arrayOf, fieldsOf, normOf, norm, firstRegion, look, maskFrom, evBin, evIndexS, evLoad, evVar, evStore, evFieldAddr, nameOf, St.alloc, St.drop, killL, kill, killAll, killObs, killOb, upd, cells?, part, retag, retagL, putIn, refFree, refFreeL, isNew, isNewL, Ty.isAgg, splice, idsL, ids, idsLL, reach, depth, St.dropL, resultsV, resultV, ↓reduceIte, Nat.reduceBEq, Nat.reduceAdd, Nat.reduceSub, Nat.reduceMul, Nat.reduceEqDiff, Nat.reduceLeDiff, Nat.reduceLT, effOf, effMem, effStore, effCall, effVar, effLit, effMake, effApp, Eff.ap, lend, evLit, evMake, evNil, freeze, onto, dropO, elemsV, sized, evCmp, eqT, eqG, minV, evUn, evField, evExtract, evIndexA, evIndexV, evSlice, optInt, fillV, placeOf, thawed, del, isNilSlice, plain, plainL, cellsJ, junkOk, St.with, setSlots, setObs, wantedD, seqOf, noRange, setAll, Array.size, ty1, ti1, ty2, ti2, ty3, ti3, ty4, ti4, ty22, ti22, ty26, ti26, ty38, ti38, ty41, ti41, ty53, ti53, ty54, ti54, ty60, ti60, ty63, ti63, ty68, ti68, ty69, ti69, ty80, ti80, ty81, ti81, ty87, ti87, ty88, ti88, ty90, ti90, ty91, ti91, ty92, ti92, ty94, ti94, ty95, ti95, einl, inls]
      simp [encAt, atM, hv, h3.1, h4, encMk]
    · by_cases h4 : 0 ≤ p
      · have a1 : ¬ p < 0 := by omega
        have a2 : total rs ≤ p := by omega
        simp (maxSteps := 1000000) (implicitDefEqProofs := false) only [Try.ntmps34, Try.results34, efc34, h1, h2, a1, a2, bne_self_eq_false, ss, List.replicate, evOp, evPlain, evVal, evMem, St.eval, St.put, St.get, constV, List.set, lenV, sliceOf, arrayOf, fieldsOf, normOf, norm, firstRegion, look, maskFrom, evBin, evIndexS, evLoad, evVar, evStore, evFieldAddr, nameOf, St.alloc, St.drop, killL, kill, killAll, killObs, killOb, upd, cells?, part, retag, retagL, putIn, refFree, refFreeL, isNew, isNewL, Ty.isAgg, splice, idsL, ids, idsLL, reach, depth, St.dropL, resultsV, resultV, ↓reduceIte, Nat.reduceBEq, Nat.reduceAdd, Nat.reduceSub, Nat.reduceMul, Nat.reduceEqDiff, Nat.reduceLeDiff, Nat.reduceLT, effOf, effMem, effStore, effCall, effVar, effLit, effMake, effApp, Eff.ap, lend, evLit, evMake, evNil, freeze, onto, dropO, elemsV, sized, evCmp, eqT, eqG, minV, evUn, evField, evExtract, evIndexA, evIndexV, evSlice, optInt, fillV, placeOf, thawed, del, isNilSlice, plain, plainL, cellsJ, junkOk, St.with, setSlots, setObs, wantedD, seqOf, noRange, setAll, Array.size, ty1, ti1, ty2, ti2, ty3, ti3, ty4, ti4, ty22, ti22, ty26, ti26, ty38, ti38, ty41, ti41, ty53, ti53, ty54, ti54, ty60, ti60, ty63, ti63, ty68, ti68, ty69, ti69, ty80, ti80, ty81, ti81, ty87, ti87, ty88, ti88, ty90, ti90, ty91, ti91, ty92, ti92, ty94, ti94, ty95, ti95, einl, inls]
        simp [encAt, atM, hv, h4, expand_none ho a2, encMk, mk0]
      · have a1 : p < 0 := by omega
        simp (maxSteps := 1000000) (implicitDefEqProofs := false) only [Try.ntmps34, Try.results34, efc34, h1, h2, a1, bne_self_eq_false, ss, List.replicate, evOp, evPlain, evVal, evMem, St.eval, St.put, St.get, constV, List.set, lenV, sliceOf, arrayOf, fieldsOf, normOf, norm, firstRegion, look, maskFrom, evBin, evIndexS, evLoad, evVar, evStore, evFieldAddr, nameOf, St.alloc, St.drop, killL, kill, killAll, killObs, killOb, upd, cells?, part, retag, retagL, putIn, refFree, refFreeL, isNew, isNewL, Ty.isAgg, splice, idsL, ids, idsLL, reach, depth, St.dropL, resultsV, resultV, ↓reduceIte, Nat.reduceBEq, Nat.reduceAdd, Nat.reduceSub, Nat.reduceMul, Nat.reduceEqDiff, Nat.reduceLeDiff, Nat.reduceLT, effOf, effMem, effStore, effCall, effVar, effLit, effMake, effApp, Eff.ap, lend, evLit, evMake, evNil, freeze, onto, dropO, elemsV, sized, evCmp, eqT, eqG, minV, evUn, evField, evExtract, evIndexA, evIndexV, evSlice, optInt, fillV, placeOf, thawed, del, isNilSlice, plain, plainL, cellsJ, junkOk, St.with, setSlots, setObs, wantedD, seqOf, noRange, setAll, Array.size, ty1, ti1, ty2, ti2, ty3, ti3, ty4, ti4, ty22, ti22, ty26, ti26, ty38, ti38, ty41, ti41, ty53, ti53, ty54, ti54, ty60, ti60, ty63, ti63, ty68, ti68, ty69, ti69, ty80, ti80, ty81, ti81, ty87, ti87, ty88, ti88, ty90, ti90, ty91, ti91, ty92, ti92, ty94, ti94, ty95, ti95, einl, inls]
        simp [encAt, atM, hv, h4, encMk, mk0]
  · have hv' : (validate rs != 0) = true := by simp [hv]
    simp (maxSteps := 1000000) (implicitDefEqProofs := false) only [Try.ntmps34, Try.results34, efc34, h1, hv', ss, List.replicate, evOp, evPlain, evVal, evMem, St.eval, St.put, St.get, constV, List.set, lenV, sliceOf, arrayOf, fieldsOf, normOf, norm, firstRegion, look, maskFrom, evBin, evIndexS, evLoad, evVar, evStore, evFieldAddr, nameOf, St.alloc, St.drop, killL, kill, killAll, killObs, killOb, upd, cells?, part, retag, retagL, putIn, refFree, refFreeL, isNew, isNewL, Ty.isAgg, splice, idsL, ids, idsLL, reach, depth, St.dropL, resultsV, resultV, ↓reduceIte, Nat.reduceBEq, Nat.reduceAdd, Nat.reduceSub, Nat.reduceMul, Nat.reduceEqDiff, Nat.reduceLeDiff, Nat.reduceLT, effOf, effMem, effStore, effCall, effVar, effLit, effMake, effApp, Eff.ap, lend, evLit, evMake, evNil, freeze, onto, dropO, elemsV, sized, evCmp, eqT, eqG, minV, evUn, evField, evExtract, evIndexA, evIndexV, evSlice, optInt, fillV, placeOf, thawed, del, isNilSlice, plain, plainL, cellsJ, junkOk, St.with, setSlots, setObs, wantedD, seqOf, noRange, setAll, Array.size, ty1, ti1, ty2, ti2, ty3, ti3, ty4, ti4, ty22, ti22, ty26, ti26, ty38, ti38, ty41, ti41, ty53, ti53, ty54, ti54, ty60, ti60, ty63, ti63, ty68, ti68, ty69, ti69, ty80, ti80, ty81, ti81, ty87, ti87, ty88, ti88, ty90, ti90, ty91, ti91, ty92, ti92, ty94, ti94, ty95, ti95, einl, inls]
    simp [encAt, atM, hv, encMk, mk0]

/-- Where the first n runs but the first one begin. -/
def starts (js : List Run) (n : Nat) : List Int := (List.range (n - 1)).map fun k => total (js.take (k + 1))

theorem starts_succ (js : List Run) {n : Nat} (h : 1 ≤ n) : starts js (n + 1) = starts js n ++ [total (js.take n)] := by
  obtain ⟨k, rfl⟩ : ∃ k, n = k + 1 := ⟨n - 1, by omega⟩
  simp [starts, List.range_succ]

def encPl (x : List Int × Int) : V := .tup [.sl true (x.1.map vI), .int .i64 x.2]
def placesM (rs : List Run) : List Int × Int := if validate rs = 0 then (starts (joinedL rs) (joinedL rs).length, 0) else ([], validate rs)

theorem starts_len (js : List Run) (n : Nat) : (starts js n).length = n - 1 := by simp [starts]

theorem push_okay {B : Int} {acc : List Run} {r : Run} (h : ∀ q ∈ acc, 1 ≤ q.len) (hr : 1 ≤ r.len) (ht : total acc + r.len ≤ B) (hB : B ≤ 40000000) : (∀ q ∈ push acc r, 1 ≤ q.len) ∧ total (push acc r) = total acc + r.len := by
  rcases snoc_cases acc with rfl | ⟨i, s, rfl⟩
  · rw [push_nil]
    refine ⟨fun q hq => ?_, by rw [total_cons, total_nil]; omega⟩
    simp only [List.mem_singleton] at hq
    subst hq; exact hr
  · have hs := h s (by simp)
    have ho : Okay (i ++ [s]) := ⟨h, by omega⟩
    have h1 := okay_nonneg (okay_app ho).1
    have h2 : total (i ++ [s]) = total i + s.len := by rw [total_app, total_cons, total_nil]; omega
    by_cases e : s.mk' = r.mk'
    · rw [push_same _ _ _ e]
      have hw : IntKind.i64.wrap (s.len + r.len) = s.len + r.len := wrap_in (by omega)
      refine ⟨fun q hq => ?_, ?_⟩
      · rcases List.mem_append.1 hq with hq | hq
        · exact h q (by simp [hq])
        · simp only [List.mem_singleton] at hq
          subst hq
          simp only [merge, hw]; omega
      · rw [total_app, total_cons, total_nil, h2]
        simp only [merge, hw]; omega
    · rw [push_other _ _ _ e]
      refine ⟨fun q hq => ?_, ?_⟩
      · simp only [List.mem_append, List.mem_cons, List.not_mem_nil, or_false] at hq
        rcases hq with hq | rfl | rfl
        · exact h q (by simp [hq])
        · exact hs
        · exact hr
      · rw [total_app, total_cons, total_cons, total_nil, h2]; omega

theorem joined_okay {rs : List Run} (h : Okay rs) : Okay (joinedL rs) ∧ total (joinedL rs) = total rs := by
  have key : ∀ (rs acc : List Run), (∀ q ∈ acc, 1 ≤ q.len) → (∀ q ∈ rs, 1 ≤ q.len) → total acc + total rs ≤ 40000000 → (∀ q ∈ rs.foldl push acc, 1 ≤ q.len) ∧ total (rs.foldl push acc) = total acc + total rs := by
    intro rs
    induction rs with
    | nil => intro acc h _ _; exact ⟨h, by simp [total]⟩
    | cons r rs ih =>
      intro acc h1 h2 h3
      have hr := h2 r List.mem_cons_self
      rw [total_cons] at h3
      have hn : 0 ≤ total rs := by
        have : Okay rs ∨ 0 ≤ total rs := by
          by_cases h4 : total rs ≤ 40000000
          · exact .inl ⟨fun q hq => h2 q (List.mem_cons_of_mem _ hq), h4⟩
          · exact .inr (by omega)
        exact this.elim okay_nonneg id
      obtain ⟨k1, k2⟩ := push_okay (B := 40000000) h1 hr (by omega) (Int.le_refl _)
      obtain ⟨k3, k4⟩ := ih (push acc r) k1 (fun q hq => h2 q (List.mem_cons_of_mem _ hq)) (by omega)
      exact ⟨k3, by rw [List.foldl_cons, k4, k2, total_cons]; omega⟩
  obtain ⟨k1, k2⟩ := key rs [] (fun q h => by cases h) h.1 (by rw [total_nil]; have := h.2; omega)
  rw [total_nil, Int.zero_add] at k2
  refine ⟨⟨k1, ?_⟩, k2⟩
  have := h.2
  unfold joinedL
  omega

theorem take_okay {js : List Run} (h : Okay js) (n : Nat) : 0 ≤ total (js.take n) ∧ total (js.take n) ≤ total js := by
  have e : js.take n ++ js.drop n = js := List.take_append_drop n js
  have h2 := okay_app (pre := js.take n) (post := js.drop n) (by rw [e]; exact h)
  have h3 := okay_nonneg h2.1
  have h4 := okay_nonneg h2.2
  have : total js = total (js.take n) + total (js.drop n) := by rw [← total_app, e]
  omega

theorem total_take {js : List Run} {n : Nat} {r : Run} (h : js[n]? = some r) : total (js.take (n + 1)) = total (js.take n) + r.len := by
  rw [List.take_add_one, h, total_app]
  simp [total]

theorem c36 (rs : List Run) (hn : rs.length ≤ 100000) : (orcω E X0).call 36 [.sl false (rs.map encRun)] = some (encPl (placesM rs)) := by
  refine call_of rfl fn36 rfl ?_
  have h1 := c24 false rs (by omega)
  have h2 := c76 false rs (by omega)
  by_cases hv : validate rs = 0
  · have ho := (valid_okay hv).1
    rw [joinR_eq (valid_pos hv)] at h2
    obtain ⟨j1, j2⟩ := joined_okay ho
    have j3 := joined_le rs
    have j4 := j1.2
    rw [hv] at h1
    simp (maxSteps := 1000000) (implicitDefEqProofs := false) only [Try.ntmps36, Try.results36, efc36, fc36, h1, h2, bne_self_eq_false, ss, List.replicate, evOp, evPlain, evVal, evMem, St.eval, St.put, St.get, constV, List.set, lenV, sliceOf, arrayOf, fieldsOf, normOf, norm, firstRegion, look, maskFrom, evBin, evIndexS, evLoad, evVar, evStore, evFieldAddr, nameOf, St.alloc, St.drop, killL, kill, killAll, killObs, killOb, upd, cells?, part, retag, retagL, putIn, refFree, refFreeL, isNew, isNewL, Ty.isAgg, splice, idsL, ids, idsLL, reach, depth, St.dropL, resultsV, resultV, ↓reduceIte, Nat.reduceBEq, Nat.reduceAdd, Nat.reduceSub, Nat.reduceMul, Nat.reduceEqDiff, Nat.reduceLeDiff, Nat.reduceLT, effOf, effMem, effStore, effCall, effVar, effLit, effMake, effApp, Eff.ap, lend, evLit, evMake, evNil, freeze, onto, dropO, elemsV, sized, evCmp, eqT, eqG, minV, evUn, evField, evExtract, evIndexA, evIndexV, evSlice, optInt, fillV, placeOf, thawed, del, isNilSlice, plain, plainL, cellsJ, junkOk, St.with, setSlots, setObs, wantedD, seqOf, noRange, setAll, Array.size, ty1, ti1, ty2, ti2, ty3, ti3, ty4, ti4, ty22, ti22, ty26, ti26, ty38, ti38, ty41, ti41, ty53, ti53, ty54, ti54, ty60, ti60, ty63, ti63, ty68, ti68, ty69, ti69, ty80, ti80, ty81, ti81, ty87, ti87, ty88, ti88, ty90, ti90, ty91, ti91, ty92, ti92, ty94, ti94, ty95, ti95, einl, inls]
    simp only [placesM, if_pos hv]
    generalize joinedL rs = js at *
    generalize hr : loopAt _ _ _ _ _ _ = r; revert r
    refine loop_inv (ι := { i : Nat // i ≤ js.length - 1 }) (fun i => [(6, .own 6 0 i.1), (7, .int .i64 (total (js.take i.1))), (8, .int .i64 i.1)])
      (fun i => [(6, { es := 1, flat := true, t := true, app := true, elems := (starts js (i.1 + 1)).map vI })]) (fun i => js.length - i.1) ⟨0, Nat.zero_le _⟩ (by simp (maxSteps := 1000000) (implicitDefEqProofs := false) only [List.take_zero, total_nil, ss, List.replicate, evOp, evPlain, evVal, evMem, St.eval, St.put, St.get, constV, List.set, lenV, sliceOf, arrayOf, fieldsOf, normOf, norm, firstRegion, look, maskFrom, evBin, evIndexS, evLoad, evVar, evStore, evFieldAddr, nameOf, St.alloc, St.drop, killL, kill, killAll, killObs, killOb, upd, cells?, part, retag, retagL, putIn, refFree, refFreeL, isNew, isNewL, Ty.isAgg, splice, idsL, ids, idsLL, reach, depth, St.dropL, resultsV, resultV, ↓reduceIte, Nat.reduceBEq, Nat.reduceAdd, Nat.reduceSub, Nat.reduceMul, Nat.reduceEqDiff, Nat.reduceLeDiff, Nat.reduceLT, effOf, effMem, effStore, effCall, effVar, effLit, effMake, effApp, Eff.ap, lend, evLit, evMake, evNil, freeze, onto, dropO, elemsV, sized, evCmp, eqT, eqG, minV, evUn, evField, evExtract, evIndexA, evIndexV, evSlice, optInt, fillV, placeOf, thawed, del, isNilSlice, plain, plainL, cellsJ, junkOk, St.with, setSlots, setObs, wantedD, seqOf, noRange, setAll, Array.size, ty1, ti1, ty2, ti2, ty3, ti3, ty4, ti4, ty22, ti22, ty26, ti26, ty38, ti38, ty41, ti41, ty53, ti53, ty54, ti54, ty60, ti60, ty63, ti63, ty68, ti68, ty69, ti69, ty80, ti80, ty81, ti81, ty87, ti87, ty88, ti88, ty90, ti90, ty91, ti91, ty92, ti92, ty94, ti94, ty95, ti95, einl, inls]; simp [starts, total]) ?_
    rintro ⟨i, hi⟩
    have hl : (starts js (i + 1)).length = i := by rw [starts_len]; rfl
    by_cases hlt : i + 1 < js.length
    · obtain ⟨r, hr⟩ : ∃ r, js[i]? = some r := ⟨_, List.getElem?_eq_getElem (by omega)⟩
      have ht := total_take hr
      have t1 := take_okay j1 i
      have t2 := take_okay j1 (i + 1)
      have hs := starts_succ js (n := i + 1) (by omega)
      have a1 : (i : Int) + 1 < js.length := by omega
      have hroom : roomy (i + 1) 8 = true := by simp [roomy]; omega
      have hbig : i + 1 ≤ 4294967296 := by omega
      simp (maxSteps := 1000000) (implicitDefEqProofs := false) (disch := omega) only [a1, hr, Int.natCast_nonneg, Int.toNat_natCast, List.getElem?_map, encRun, hl, hroom, hbig, wrap_in, ss, List.replicate, evOp, evPlain, evVal, evMem, St.eval, St.put, St.get, constV, List.set, lenV, sliceOf, arrayOf, fieldsOf, normOf, norm, firstRegion, look, maskFrom, evBin, evIndexS, evLoad, evVar, evStore, evFieldAddr, nameOf, St.alloc, St.drop, killL, kill, killAll, killObs, killOb, upd, cells?, part, retag, retagL, putIn, refFree, refFreeL, isNew, isNewL, Ty.isAgg, splice, idsL, ids, idsLL, reach, depth, St.dropL, resultsV, resultV, ↓reduceIte, Nat.reduceBEq, Nat.reduceAdd, Nat.reduceSub, Nat.reduceMul, Nat.reduceEqDiff, Nat.reduceLeDiff, Nat.reduceLT, effOf, effMem, effStore, effCall, effVar, effLit, effMake, effApp, Eff.ap, lend, evLit, evMake, evNil, freeze, onto, dropO, elemsV, sized, evCmp, eqT, eqG, minV, evUn, evField, evExtract, evIndexA, evIndexV, evSlice, optInt, fillV, placeOf, thawed, del, isNilSlice, plain, plainL, cellsJ, junkOk, St.with, setSlots, setObs, wantedD, seqOf, noRange, setAll, Array.size, ty1, ti1, ty2, ti2, ty3, ti3, ty4, ti4, ty22, ti22, ty26, ti26, ty38, ti38, ty41, ti41, ty53, ti53, ty54, ti54, ty60, ti60, ty63, ti63, ty68, ti68, ty69, ti69, ty80, ti80, ty81, ti81, ty87, ti87, ty88, ti88, ty90, ti90, ty91, ti91, ty92, ti92, ty94, ti94, ty95, ti95, einl, inls]
      refine ⟨⟨i + 1, by omega⟩, ?_, by dsimp only; omega⟩
      simp [hs, ht, vI]
    · have a1 : ¬ (i : Int) + 1 < js.length := by omega
      have e1 : starts js (i + 1) = starts js js.length := by unfold starts; congr 2; omega
      have e2 : ((starts js (i + 1)).map vI).take i = (starts js js.length).map vI := by rw [e1]; refine List.take_of_length_le ?_; simp [starts_len]; omega
      simp (maxSteps := 1000000) (implicitDefEqProofs := false) (disch := omega) only [a1, Try.ntmps36, Try.results36, efc36, fc36, e2, hl, wrap_in, ss, List.replicate, evOp, evPlain, evVal, evMem, St.eval, St.put, St.get, constV, List.set, lenV, sliceOf, arrayOf, fieldsOf, normOf, norm, firstRegion, look, maskFrom, evBin, evIndexS, evLoad, evVar, evStore, evFieldAddr, nameOf, St.alloc, St.drop, killL, kill, killAll, killObs, killOb, upd, cells?, part, retag, retagL, putIn, refFree, refFreeL, isNew, isNewL, Ty.isAgg, splice, idsL, ids, idsLL, reach, depth, St.dropL, resultsV, resultV, ↓reduceIte, Nat.reduceBEq, Nat.reduceAdd, Nat.reduceSub, Nat.reduceMul, Nat.reduceEqDiff, Nat.reduceLeDiff, Nat.reduceLT, effOf, effMem, effStore, effCall, effVar, effLit, effMake, effApp, Eff.ap, lend, evLit, evMake, evNil, freeze, onto, dropO, elemsV, sized, evCmp, eqT, eqG, minV, evUn, evField, evExtract, evIndexA, evIndexV, evSlice, optInt, fillV, placeOf, thawed, del, isNilSlice, plain, plainL, cellsJ, junkOk, St.with, setSlots, setObs, wantedD, seqOf, noRange, setAll, Array.size, ty1, ti1, ty2, ti2, ty3, ti3, ty4, ti4, ty22, ti22, ty26, ti26, ty38, ti38, ty41, ti41, ty53, ti53, ty54, ti54, ty60, ti60, ty63, ti63, ty68, ti68, ty69, ti69, ty80, ti80, ty81, ti81, ty87, ti87, ty88, ti88, ty90, ti90, ty91, ti91, ty92, ti92, ty94, ti94, ty95, ti95, einl, inls]
      simp [encPl]
  · have hv' : (validate rs != 0) = true := by simp [hv]
    simp (maxSteps := 1000000) (implicitDefEqProofs := false) only [Try.ntmps36, Try.results36, efc36, fc36, h1, hv', ss, List.replicate, evOp, evPlain, evVal, evMem, St.eval, St.put, St.get, constV, List.set, lenV, sliceOf, arrayOf, fieldsOf, normOf, norm, firstRegion, look, maskFrom, evBin, evIndexS, evLoad, evVar, evStore, evFieldAddr, nameOf, St.alloc, St.drop, killL, kill, killAll, killObs, killOb, upd, cells?, part, retag, retagL, putIn, refFree, refFreeL, isNew, isNewL, Ty.isAgg, splice, idsL, ids, idsLL, reach, depth, St.dropL, resultsV, resultV, ↓reduceIte, Nat.reduceBEq, Nat.reduceAdd, Nat.reduceSub, Nat.reduceMul, Nat.reduceEqDiff, Nat.reduceLeDiff, Nat.reduceLT, effOf, effMem, effStore, effCall, effVar, effLit, effMake, effApp, Eff.ap, lend, evLit, evMake, evNil, freeze, onto, dropO, elemsV, sized, evCmp, eqT, eqG, minV, evUn, evField, evExtract, evIndexA, evIndexV, evSlice, optInt, fillV, placeOf, thawed, del, isNilSlice, plain, plainL, cellsJ, junkOk, St.with, setSlots, setObs, wantedD, seqOf, noRange, setAll, Array.size, ty1, ti1, ty2, ti2, ty3, ti3, ty4, ti4, ty22, ti22, ty26, ti26, ty38, ti38, ty41, ti41, ty53, ti53, ty54, ti54, ty60, ti60, ty63, ti63, ty68, ti68, ty69, ti69, ty80, ti80, ty81, ti81, ty87, ti87, ty88, ti88, ty90, ti90, ty91, ti91, ty92, ti92, ty94, ti94, ty95, ti95, einl, inls]
    simp [encPl, placesM, hv]

end Go.AM.A
