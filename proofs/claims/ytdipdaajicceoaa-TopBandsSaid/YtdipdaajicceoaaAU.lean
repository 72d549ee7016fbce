/- A part of the proof: the texts ABandAA, ABandAB, one after another. No condition. -/
import Derived.Test.YtdipdaajicceoaaAT
import Derived.Test.YtdipdaajicceoaaAmDyn
set_option linter.unusedSimpArgs false

section
namespace Go.AM.A
open Go Go.Proofs

theorem c7 (xs ys : List Run) : (orcω E X0).call 7 [.sl false (xs.map encRun), .sl false (ys.map encRun)] = some (.bool true) := by
  refine call_of rfl fn7 rfl ?_
  have k1 := c16 false xs
  have k2 := c16 false ys
  by_cases hx : (100 : Int) < xs.length
  · simp only [hx, decide_true] at k1
    simp (maxSteps := 1000000) (implicitDefEqProofs := false) only [Try.ntmps7, Try.results7, efc7, k1, c17, ss, List.replicate, evOp, evPlain, evVal, evMem, St.eval, St.put, St.get, constV, List.set, lenV, sliceOf, arrayOf, fieldsOf, normOf, norm, firstRegion, look, maskFrom, evBin, evIndexS, evLoad, evVar, evStore, evFieldAddr, nameOf, St.alloc, St.drop, killL, kill, killAll, killObs, killOb, upd, cells?, part, retag, retagL, putIn, refFree, refFreeL, isNew, isNewL, Ty.isAgg, splice, idsL, ids, idsLL, reach, depth, St.dropL, resultsV, resultV, ↓reduceIte, Nat.reduceBEq, Nat.reduceAdd, Nat.reduceSub, Nat.reduceMul, Nat.reduceEqDiff, Nat.reduceLeDiff, Nat.reduceLT, effOf, effMem, effStore, effCall, effVar, effLit, effMake, effApp, Eff.ap, lend, evLit, evMake, evNil, freeze, onto, dropO, elemsV, sized, evCmp, eqT, eqG, minV, evUn, evField, evExtract, evIndexA, evIndexV, evSlice, optInt, fillV, placeOf, thawed, del, isNilSlice, plain, plainL, cellsJ, junkOk, St.with, setSlots, setObs, wantedD, seqOf, noRange, setAll, Array.size, te, einl, inls]
  by_cases hy : (100 : Int) < ys.length
  · simp only [hx, hy, decide_true, decide_false] at k1 k2
    simp (maxSteps := 1000000) (implicitDefEqProofs := false) only [Try.ntmps7, Try.results7, efc7, k1, k2, c17, ss, List.replicate, evOp, evPlain, evVal, evMem, St.eval, St.put, St.get, constV, List.set, lenV, sliceOf, arrayOf, fieldsOf, normOf, norm, firstRegion, look, maskFrom, evBin, evIndexS, evLoad, evVar, evStore, evFieldAddr, nameOf, St.alloc, St.drop, killL, kill, killAll, killObs, killOb, upd, cells?, part, retag, retagL, putIn, refFree, refFreeL, isNew, isNewL, Ty.isAgg, splice, idsL, ids, idsLL, reach, depth, St.dropL, resultsV, resultV, ↓reduceIte, Nat.reduceBEq, Nat.reduceAdd, Nat.reduceSub, Nat.reduceMul, Nat.reduceEqDiff, Nat.reduceLeDiff, Nat.reduceLT, effOf, effMem, effStore, effCall, effVar, effLit, effMake, effApp, Eff.ap, lend, evLit, evMake, evNil, freeze, onto, dropO, elemsV, sized, evCmp, eqT, eqG, minV, evUn, evField, evExtract, evIndexA, evIndexV, evSlice, optInt, fillV, placeOf, thawed, del, isNilSlice, plain, plainL, cellsJ, junkOk, St.with, setSlots, setObs, wantedD, seqOf, noRange, setAll, Array.size, te, einl, inls]
  simp only [hx, hy, decide_false] at k1 k2
  have k3 := c37 xs ys (by omega) (by omega)
  have k4 := c38 xs ys (by omega) (by omega)
  generalize findM xs ys = F at *
  obtain ⟨n, f, e⟩ := F
  simp only [encFind] at k3 k4
  have e1 : (f == f) = true := by simp
  simp (maxSteps := 1000000) (implicitDefEqProofs := false) only [Try.ntmps7, Try.results7, efc7, k1, k2, k3, k4, e1, beq_self_eq_true, c17, ss, List.replicate, evOp, evPlain, evVal, evMem, St.eval, St.put, St.get, constV, List.set, lenV, sliceOf, arrayOf, fieldsOf, normOf, norm, firstRegion, look, maskFrom, evBin, evIndexS, evLoad, evVar, evStore, evFieldAddr, nameOf, St.alloc, St.drop, killL, kill, killAll, killObs, killOb, upd, cells?, part, retag, retagL, putIn, refFree, refFreeL, isNew, isNewL, Ty.isAgg, splice, idsL, ids, idsLL, reach, depth, St.dropL, resultsV, resultV, ↓reduceIte, Nat.reduceBEq, Nat.reduceAdd, Nat.reduceSub, Nat.reduceMul, Nat.reduceEqDiff, Nat.reduceLeDiff, Nat.reduceLT, effOf, effMem, effStore, effCall, effVar, effLit, effMake, effApp, Eff.ap, lend, evLit, evMake, evNil, freeze, onto, dropO, elemsV, sized, evCmp, eqT, eqG, minV, evUn, evField, evExtract, evIndexA, evIndexV, evSlice, optInt, fillV, placeOf, thawed, del, isNilSlice, plain, plainL, cellsJ, junkOk, St.with, setSlots, setObs, wantedD, seqOf, noRange, setAll, Array.size, te, einl, inls]

theorem find_occ {ms p : List Mk} {j : Nat} (h : Occ ms p j) : ∃ k : Nat, k ≤ j ∧ findR ms p = ((k : Int), true) ∧ Occ ms p k := by
  obtain ⟨i, h1, h2, h3⟩ := least_occ h
  exact ⟨i, h1, first_find (Or.inl ⟨rfl, i, rfl, h2, h3⟩), h2⟩

theorem slice_err {rs : List Run} {lo hi : Int} (h : ¬ (validate rs = 0 ∧ spanM rs lo hi = true)) : (sliceM rs lo hi).2 ≠ 0 ∧ (sliceM rs lo hi).1 = [] := by
  unfold sliceM
  by_cases h1 : validate rs = 0
  · rw [if_pos h1, if_neg (fun h2 => h ⟨h1, h2⟩)]; exact ⟨by simp, rfl⟩
  · rw [if_neg h1]; exact ⟨h1, rfl⟩

theorem both_of {xs ys : List Run} (h1 : validate xs = 0) (h2 : validate ys = 0) : both xs ys = 0 := by
  unfold both; rw [if_pos h1, h2]

theorem c13 (xs : List Run) (lo hi : Int) : (orcω E X0).call 13 [.sl false (xs.map encRun), .int .i64 lo, .int .i64 hi] = some (.bool true) := by
  refine call_of rfl fn13 rfl ?_
  have k1 := c16 false xs
  by_cases hx : (100 : Int) < xs.length
  · simp only [hx, decide_true] at k1
    simp (maxSteps := 1000000) (implicitDefEqProofs := false) only [Try.ntmps13, Try.results13, efc13, k1, c17, ss, List.replicate, evOp, evPlain, evVal, evMem, St.eval, St.put, St.get, constV, List.set, lenV, sliceOf, arrayOf, fieldsOf, normOf, norm, firstRegion, look, maskFrom, evBin, evIndexS, evLoad, evVar, evStore, evFieldAddr, nameOf, St.alloc, St.drop, killL, kill, killAll, killObs, killOb, upd, cells?, part, retag, retagL, putIn, refFree, refFreeL, isNew, isNewL, Ty.isAgg, splice, idsL, ids, idsLL, reach, depth, St.dropL, resultsV, resultV, ↓reduceIte, Nat.reduceBEq, Nat.reduceAdd, Nat.reduceSub, Nat.reduceMul, Nat.reduceEqDiff, Nat.reduceLeDiff, Nat.reduceLT, effOf, effMem, effStore, effCall, effVar, effLit, effMake, effApp, Eff.ap, lend, evLit, evMake, evNil, freeze, onto, dropO, elemsV, sized, evCmp, eqT, eqG, minV, evUn, evField, evExtract, evIndexA, evIndexV, evSlice, optInt, fillV, placeOf, thawed, del, isNilSlice, plain, plainL, cellsJ, junkOk, St.with, setSlots, setObs, wantedD, seqOf, noRange, setAll, Array.size, te, einl, inls]
  simp only [hx, decide_false] at k1
  have k2 := c31 xs lo hi (by omega)
  by_cases hs : validate xs = 0 ∧ spanM xs lo hi = true
  · obtain ⟨hv, hs⟩ := hs
    have s1 := slice_valid hv hs
    have l1 := slice_len hv hs
    rw [slice_rle hv hs] at k2
    obtain ⟨b1, b2, b3⟩ := (span_of hv).1 hs
    have hp : (((expand xs).take hi.toNat).drop lo.toNat).length = hi.toNat - lo.toNat := by simp only [List.length_drop, List.length_take]; omega
    have ho : Occ (expand xs) (((expand xs).take hi.toNat).drop lo.toNat) lo.toNat := by
      rw [occ_take, hp, show lo.toNat + (hi.toNat - lo.toNat) = hi.toNat by omega]
      exact ⟨rfl, by omega⟩
    generalize ((expand xs).take hi.toNat).drop lo.toNat = p at *
    obtain ⟨k, f1, f2, f3⟩ := find_occ ho
    have k3 := c37 xs (rle p) (by omega) (by omega)
    rw [findM, if_pos (both_of hv s1.1), s1.2, f2] at k3
    have f4 := occ_len f3
    have f5 := (occ_take.1 f3).1
    have l2 := valid_len hv
    have hs2 : spanM xs k (k + hi - lo) = true := (span_of hv).2 (by omega)
    have k4 := c31 xs k (k + hi - lo) (by omega)
    rw [slice_rle hv hs2, show (k + hi - lo : Int).toNat = k + p.length by omega, Int.toNat_natCast, f5] at k4
    have k5 := c25 false false (rle p) (rle p) (by omega)
    have w1 : IntKind.i64.wrap ((k : Int) + hi) = k + hi := wrap_in (by omega)
    have w2 : IntKind.i64.wrap ((k : Int) + hi - lo) = k + hi - lo := wrap_in (by omega)
    have a1 : (k : Int) ≤ lo := by omega
    simp only [encFind, encRes, decide_true] at k2 k3 k4 k5
    simp (maxSteps := 1000000) (implicitDefEqProofs := false) only [Try.ntmps13, Try.results13, efc13, k1, k2, k3, k4, k5, w1, w2, a1, bne_self_eq_false, beq_self_eq_true, c17, ss, List.replicate, evOp, evPlain, evVal, evMem, St.eval, St.put, St.get, constV, List.set, lenV, sliceOf, arrayOf, fieldsOf, normOf, norm, firstRegion, look, maskFrom, evBin, evIndexS, evLoad, evVar, evStore, evFieldAddr, nameOf, St.alloc, St.drop, killL, kill, killAll, killObs, killOb, upd, cells?, part, retag, retagL, putIn, refFree, refFreeL, isNew, isNewL, Ty.isAgg, splice, idsL, ids, idsLL, reach, depth, St.dropL, resultsV, resultV, ↓reduceIte, Nat.reduceBEq, Nat.reduceAdd, Nat.reduceSub, Nat.reduceMul, Nat.reduceEqDiff, Nat.reduceLeDiff, Nat.reduceLT, effOf, effMem, effStore, effCall, effVar, effLit, effMake, effApp, Eff.ap, lend, evLit, evMake, evNil, freeze, onto, dropO, elemsV, sized, evCmp, eqT, eqG, minV, evUn, evField, evExtract, evIndexA, evIndexV, evSlice, optInt, fillV, placeOf, thawed, del, isNilSlice, plain, plainL, cellsJ, junkOk, St.with, setSlots, setObs, wantedD, seqOf, noRange, setAll, Array.size, te, einl, inls]
  · have h2 := slice_err hs
    generalize sliceM xs lo hi = J at *
    obtain ⟨js, e⟩ := J
    obtain ⟨h3, rfl⟩ := h2
    dsimp only at h3
    have h4 : (e != 0) = true := by simpa using h3
    simp only [encRes, List.map_nil] at k2
    have h5 : (((0 : Nat) : Int) == 0) = true := rfl
    simp (maxSteps := 1000000) (implicitDefEqProofs := false) only [Try.ntmps13, Try.results13, efc13, k1, k2, h4, h5, beq_self_eq_true, c17, ss, List.replicate, evOp, evPlain, evVal, evMem, St.eval, St.put, St.get, constV, List.set, lenV, sliceOf, arrayOf, fieldsOf, normOf, norm, firstRegion, look, maskFrom, evBin, evIndexS, evLoad, evVar, evStore, evFieldAddr, nameOf, St.alloc, St.drop, killL, kill, killAll, killObs, killOb, upd, cells?, part, retag, retagL, putIn, refFree, refFreeL, isNew, isNewL, Ty.isAgg, splice, idsL, ids, idsLL, reach, depth, St.dropL, resultsV, resultV, ↓reduceIte, Nat.reduceBEq, Nat.reduceAdd, Nat.reduceSub, Nat.reduceMul, Nat.reduceEqDiff, Nat.reduceLeDiff, Nat.reduceLT, effOf, effMem, effStore, effCall, effVar, effLit, effMake, effApp, Eff.ap, lend, evLit, evMake, evNil, freeze, onto, dropO, elemsV, sized, evCmp, eqT, eqG, minV, evUn, evField, evExtract, evIndexA, evIndexV, evSlice, optInt, fillV, placeOf, thawed, del, isNilSlice, plain, plainL, cellsJ, junkOk, St.with, setSlots, setObs, wantedD, seqOf, noRange, setAll, Array.size, te, einl, inls]

/-- A change, place by place. -/
theorem change_at {rs : List Run} {lo hi : Int} {f : Mk → Mk} (ho : Okay rs) (h1 : 0 ≤ lo) (h2 : lo ≤ hi) (h3 : hi ≤ total rs) :
    expand (changedL rs lo hi f) = (expand rs).take lo.toNat ++ ((((expand rs).take hi.toNat).drop lo.toNat).map f ++ (expand rs).drop hi.toNat) := by
  have h4 : ∀ qs : List Run, expand (qs.map (remark f)) = (expand qs).map f := by
    intro qs
    induction qs with
    | nil => rfl
    | cons q qs ih =>
      rw [List.map_cons, expand_cons, expand_cons, ih, List.map_append, List.map_replicate]
      rfl
  have h5 := expand_len ho
  unfold changedL
  rw [expand_app, expand_app, h4, expand_cut _ _ ho.1, expand_cut _ _ ho.1, expand_cut _ _ ho.1]
  simp only [Int.sub_zero, Int.toNat_zero, List.drop_zero]
  rw [List.take_of_length_le (i := (total rs).toNat) (by omega)]

theorem changed_total {rs : List Run} {lo hi : Int} {f : Mk → Mk} (ho : Okay rs) (h1 : 0 ≤ lo) (h2 : lo ≤ hi) (h3 : hi ≤ total rs) : Okay (changedL rs lo hi f) ∧ total (changedL rs lo hi f) = total rs := by
  have hp : ∀ l : List Run, (∀ r ∈ l, 1 ≤ r.len) → ((expand l).length : Int) = total l := by
    intro l
    induction l with
    | nil => intro _; rfl
    | cons x l ih =>
      intro h
      have := ih fun r hr => h r (List.mem_cons_of_mem _ hr)
      have := h x List.mem_cons_self
      rw [expand_cons, List.length_append, List.length_replicate, total_cons]; omega
  have h4 := hp _ (lens_changed (rs := rs) (lo := lo) (hi := hi) (f := f))
  have h5 := expand_len ho
  have h6 : total (changedL rs lo hi f) = total rs := by
    rw [← h4, change_at ho h1 h2 h3]
    simp only [List.length_append, List.length_map, List.length_drop, List.length_take]
    omega
  exact ⟨⟨lens_changed, by rw [h6]; exact ho.2⟩, h6⟩

end Go.AM.A
end

section
namespace Go.AM.A
open Go Go.Proofs

theorem or_in (x y : Int) (hx : inB x 0 15 = true) (hy : inB y 0 15 = true) : inB (orI x y) 0 15 = true := by
  have h : ∀ a b : Fin 16, inB (orI (a.val : Nat) (b.val : Nat)) 0 15 = true := by decide +kernel
  simp only [inB, Bool.and_eq_true, decide_eq_true_eq] at hx hy
  have := h ⟨x.toNat, by omega⟩ ⟨y.toNat, by omega⟩
  simpa only [Int.toNat_of_nonneg hx.1, Int.toNat_of_nonneg hy.1] using this

theorem well_flaw {m : Mk} {fl : Int} (h : wellM m = true) (hf : inB fl 0 15 = true) : wellM (flawF fl m) = true := by
  simp only [wellM, Bool.and_eq_true] at h ⊢
  exact ⟨h.1, or_in _ _ h.2 hf⟩

theorem well_press {m : Mk} {th : Int} (h : wellM m = true) (hf : inB th 1 1000 = true) : wellM (pressF th m) = true := by
  have e : wellM (pressF th m) = (inB (min m.thick th) 1 1000 && inB m.shade 0 99 && inB m.flaw 0 15) := rfl
  rw [e]
  simp only [wellM, Bool.and_eq_true] at h ⊢
  refine ⟨⟨?_, h.1.2⟩, h.2⟩
  have h1 := h.1.1
  simp only [inB, Bool.and_eq_true, decide_eq_true_eq] at h1 hf ⊢
  omega

theorem change_get {ms : List Mk} {l h p : Nat} {f : Mk → Mk} (h1 : l ≤ h) (h2 : h ≤ ms.length) :
    (ms.take l ++ (((ms.take h).drop l).map f ++ ms.drop h))[p]? = (ms[p]?).map fun m => if l ≤ p ∧ p < h then f m else m := by
  by_cases a1 : p < l
  · rw [List.getElem?_append_left (by simp; omega), List.getElem?_take_of_lt a1]
    cases ms[p]? with
    | none => rfl
    | some m => rw [Option.map_some, if_neg (by omega)]
  · rw [List.getElem?_append_right (by simp; omega)]
    have e1 : (ms.take l).length = l := by simp; omega
    rw [e1]
    by_cases a2 : p < h
    · rw [List.getElem?_append_left (by simp; omega), List.getElem?_map, List.getElem?_drop, show l + (p - l) = p by omega, List.getElem?_take_of_lt a2]
      cases ms[p]? with
      | none => rfl
      | some m => rw [Option.map_some, Option.map_some, if_pos (by omega)]
    · have e2 : (((ms.take h).drop l).map f).length = h - l := by simp; omega
      rw [List.getElem?_append_right (by omega), e2, List.getElem?_drop, show h + (p - l - (h - l)) = p by omega]
      cases ms[p]? with
      | none => rfl
      | some m => rw [Option.map_some, if_neg (by omega)]

/-- What a change that is no error returns. -/
theorem change_rle {rs : List Run} {lo hi : Int} {ok : Bool} {f : Mk → Mk} (hf : ok = true → ∀ m, wellM m = true → wellM (f m) = true) (h : (changeM rs lo hi ok f).2 = 0) :
    validate rs = 0 ∧ spanM rs lo hi = true ∧ ok = true ∧ validate (changeM rs lo hi ok f).1 = 0 ∧
    expand (changeM rs lo hi ok f).1 = (expand rs).take lo.toNat ++ ((((expand rs).take hi.toNat).drop lo.toNat).map f ++ (expand rs).drop hi.toNat) ∧ Normal (changeM rs lo hi ok f).1 ∧ (changeM rs lo hi ok f).1.length ≤ 40 := by
  unfold changeM at h ⊢
  by_cases hv : validate rs = 0
  · rw [if_pos hv] at h ⊢
    by_cases hs : spanM rs lo hi = true ∧ ok = true
    · rw [if_pos hs] at h ⊢
      obtain ⟨o1, o2, o3⟩ := valid_okay hv
      obtain ⟨b1, b2, b3⟩ := (span_of hv).1 hs.1
      have e1 := expand_len o1
      obtain ⟨c1, c2⟩ := changed_total (f := f) o1 b1 b2 (by omega)
      obtain ⟨n1, n2, n3, n4, n5⟩ := joined_normal c1
      have c3 := change_at (f := f) o1 b1 b2 (show hi ≤ total rs by omega)
      unfold finished at h ⊢
      by_cases hb : 40 < (joinedL (changedL rs lo hi f)).length ∨ 1000000 < ln (joinedL (changedL rs lo hi f))
      · rw [if_pos hb] at h; simp at h
      · rw [if_neg hb] at h ⊢
        refine ⟨hv, hs.1, hs.2, valid_of (by dsimp only; omega) n3.1 ?_ (by dsimp only; omega), by rw [← c3]; exact n2, n1, by dsimp only; omega⟩
        intro m hm
        dsimp only at hm
        rw [n2, c3] at hm
        have hw := valid_marks hv
        rcases List.mem_append.1 hm with hm | hm
        · exact hw m (List.mem_of_mem_take hm)
        · rcases List.mem_append.1 hm with hm | hm
          · obtain ⟨k, hk, rfl⟩ := List.mem_map.1 hm
            exact hf hs.2 k (hw k (List.mem_of_mem_take (List.mem_of_mem_drop hk)))
          · exact hw m (List.mem_of_mem_drop hm)
    · rw [if_neg hs] at h; simp at h
  · rw [if_neg hv] at h; exact absurd h hv

theorem at_some {rs : List Run} {p : Int} (h : (atM rs p).2 = 0) : validate rs = 0 ∧ 0 ≤ p ∧ (expand rs)[p.toNat]? = some (atM rs p).1 := by
  unfold atM at h ⊢
  by_cases hv : validate rs = 0
  · rw [if_pos hv] at h ⊢
    by_cases hp : 0 ≤ p
    · rw [if_pos hp] at h ⊢
      cases hm : (expand rs)[p.toNat]? with
      | none => rw [hm] at h; simp at h
      | some m => exact ⟨hv, hp, rfl⟩
    · rw [if_neg hp] at h; simp at h
  · rw [if_neg hv] at h; exact absurd h hv

theorem at_of {rs : List Run} {p : Int} {m : Mk} (hv : validate rs = 0) (hp : 0 ≤ p) (hm : (expand rs)[p.toNat]? = some m) : atM rs p = (m, 0) := by
  unfold atM
  rw [if_pos hv, if_pos hp, hm]

theorem change_mark {rs : List Run} {lo hi p : Int} {ok : Bool} {f : Mk → Mk} (hf : ok = true → ∀ m, wellM m = true → wellM (f m) = true) (h : (changeM rs lo hi ok f).2 = 0) (h2 : (atM rs p).2 = 0) :
    atM (changeM rs lo hi ok f).1 p = (if lo ≤ p ∧ p < hi then f (atM rs p).1 else (atM rs p).1, 0) := by
  obtain ⟨v1, v2, v3, v4, v5, _⟩ := change_rle hf h
  obtain ⟨a1, a2, a3⟩ := at_some h2
  obtain ⟨b1, b2, b3⟩ := (span_of v1).1 v2
  refine at_of v4 a2 ?_
  rw [v5, change_get (by omega) (by omega), a3, Option.map_some]
  by_cases hc : lo ≤ p ∧ p < hi
  · rw [if_pos hc, if_pos (by omega)]
  · rw [if_neg hc, if_neg (by omega)]

set_option maxHeartbeats 4000000 in
theorem c14 (xs : List Run) (lo hi fl th p : Int) : (orcω E X0).call 14 [.sl false (xs.map encRun), .agg [.int .i64 lo, .int .i64 hi, .int .i64 fl, .int .i64 th], .int .i64 p] = some (.bool true) := by
  refine call_of rfl fn14 rfl ?_
  have k1 := c16 false xs
  by_cases hx : (100 : Int) < xs.length
  · simp only [hx, decide_true] at k1
    simp (maxSteps := 1000000) (implicitDefEqProofs := false) only [Try.ntmps14, Try.results14, efc14, k1, c17, ss, List.replicate, evOp, evPlain, evVal, evMem, St.eval, St.put, St.get, constV, List.set, lenV, sliceOf, arrayOf, fieldsOf, normOf, norm, firstRegion, look, maskFrom, evBin, evIndexS, evLoad, evVar, evStore, evFieldAddr, nameOf, St.alloc, St.drop, killL, kill, killAll, killObs, killOb, upd, cells?, part, retag, retagL, putIn, refFree, refFreeL, isNew, isNewL, Ty.isAgg, splice, idsL, ids, idsLL, reach, depth, St.dropL, resultsV, resultV, ↓reduceIte, Nat.reduceBEq, Nat.reduceAdd, Nat.reduceSub, Nat.reduceMul, Nat.reduceEqDiff, Nat.reduceLeDiff, Nat.reduceLT, effOf, effMem, effStore, effCall, effVar, effLit, effMake, effApp, Eff.ap, lend, evLit, evMake, evNil, freeze, onto, dropO, elemsV, sized, evCmp, eqT, eqG, minV, evUn, evField, evExtract, evIndexA, evIndexV, evSlice, optInt, fillV, placeOf, thawed, del, isNilSlice, plain, plainL, cellsJ, junkOk, St.with, setSlots, setObs, wantedD, seqOf, noRange, setAll, Array.size, te, einl, inls]
  simp only [hx, decide_false] at k1
  have k2 := c33 xs p (by omega)
  have k3 := c52 xs lo hi fl (by omega)
  have k4 := c54 xs lo hi th (by omega)
  have l1 := changeM_le xs lo hi (inB fl 0 15) (flawF fl)
  have l2 := changeM_le xs lo hi (inB th 1 1000) (pressF th)
  have m1 := change_mark (rs := xs) (lo := lo) (hi := hi) (p := p) (ok := inB fl 0 15) (f := flawF fl) (fun h m hm => well_flaw hm h)
  have m2 := change_mark (rs := xs) (lo := lo) (hi := hi) (p := p) (ok := inB th 1 1000) (f := pressF th) (fun h m hm => well_press hm h)
  generalize changeM xs lo hi (inB fl 0 15) (flawF fl) = J at *
  generalize changeM xs lo hi (inB th 1 1000) (pressF th) = R at *
  generalize atM xs p = U at *
  obtain ⟨js, je⟩ := J
  obtain ⟨rs, re⟩ := R
  obtain ⟨u, e⟩ := U
  dsimp only at l1 l2 m1 m2
  have k5 := c33 js p (by omega)
  have k6 := c33 rs p (by omega)
  simp only [encAt, encRes] at k2 k3 k4 k5 k6
  by_cases h1 : e = 0
  · by_cases h2 : je = 0
    · by_cases h3 : re = 0
      · rw [m1 h2 h1] at k5
        rw [m2 h3 h1] at k6
        subst h1; subst h2; subst h3
        by_cases g1 : lo ≤ p
        · by_cases g2 : p < hi
          · rw [if_pos ⟨g1, g2⟩] at k5 k6
            simp only [flawF, orI] at k5
            by_cases g3 : th < u.thick
            · rw [pressF, show min u.thick th = th by omega] at k6
              simp (maxSteps := 1000000) (implicitDefEqProofs := false) only [Try.ntmps14, Try.results14, efc14, k1, k2, k3, k4, k5, k6, encMk, g1, g2, g3, bne_self_eq_false, beq_self_eq_true, c17, ss, List.replicate, evOp, evPlain, evVal, evMem, St.eval, St.put, St.get, constV, List.set, lenV, sliceOf, arrayOf, fieldsOf, normOf, norm, firstRegion, look, maskFrom, evBin, evIndexS, evLoad, evVar, evStore, evFieldAddr, nameOf, St.alloc, St.drop, killL, kill, killAll, killObs, killOb, upd, cells?, part, retag, retagL, putIn, refFree, refFreeL, isNew, isNewL, Ty.isAgg, splice, idsL, ids, idsLL, reach, depth, St.dropL, resultsV, resultV, ↓reduceIte, Nat.reduceBEq, Nat.reduceAdd, Nat.reduceSub, Nat.reduceMul, Nat.reduceEqDiff, Nat.reduceLeDiff, Nat.reduceLT, effOf, effMem, effStore, effCall, effVar, effLit, effMake, effApp, Eff.ap, lend, evLit, evMake, evNil, freeze, onto, dropO, elemsV, sized, evCmp, eqT, eqG, minV, evUn, evField, evExtract, evIndexA, evIndexV, evSlice, optInt, fillV, placeOf, thawed, del, isNilSlice, plain, plainL, cellsJ, junkOk, St.with, setSlots, setObs, wantedD, seqOf, noRange, setAll, Array.size, te, einl, inls]
              rw [evRegion_run]; rotate_left; · rfl
              simp (maxSteps := 1000000) (implicitDefEqProofs := false) only [Try.ntmps14, Try.results14, efc14, k1, k2, k3, k4, k5, k6, encMk, g1, g2, g3, bne_self_eq_false, beq_self_eq_true, c17, ss, List.replicate, evOp, evPlain, evVal, evMem, St.eval, St.put, St.get, constV, List.set, lenV, sliceOf, arrayOf, fieldsOf, normOf, norm, firstRegion, look, maskFrom, evBin, evIndexS, evLoad, evVar, evStore, evFieldAddr, nameOf, St.alloc, St.drop, killL, kill, killAll, killObs, killOb, upd, cells?, part, retag, retagL, putIn, refFree, refFreeL, isNew, isNewL, Ty.isAgg, splice, idsL, ids, idsLL, reach, depth, St.dropL, resultsV, resultV, ↓reduceIte, Nat.reduceBEq, Nat.reduceAdd, Nat.reduceSub, Nat.reduceMul, Nat.reduceEqDiff, Nat.reduceLeDiff, Nat.reduceLT, effOf, effMem, effStore, effCall, effVar, effLit, effMake, effApp, Eff.ap, lend, evLit, evMake, evNil, freeze, onto, dropO, elemsV, sized, evCmp, eqT, eqG, minV, evUn, evField, evExtract, evIndexA, evIndexV, evSlice, optInt, fillV, placeOf, thawed, del, isNilSlice, plain, plainL, cellsJ, junkOk, St.with, setSlots, setObs, wantedD, seqOf, noRange, setAll, Array.size, te, einl, inls]
            · rw [pressF, show min u.thick th = u.thick by omega] at k6
              simp (maxSteps := 1000000) (implicitDefEqProofs := false) only [Try.ntmps14, Try.results14, efc14, k1, k2, k3, k4, k5, k6, encMk, g1, g2, g3, bne_self_eq_false, beq_self_eq_true, c17, ss, List.replicate, evOp, evPlain, evVal, evMem, St.eval, St.put, St.get, constV, List.set, lenV, sliceOf, arrayOf, fieldsOf, normOf, norm, firstRegion, look, maskFrom, evBin, evIndexS, evLoad, evVar, evStore, evFieldAddr, nameOf, St.alloc, St.drop, killL, kill, killAll, killObs, killOb, upd, cells?, part, retag, retagL, putIn, refFree, refFreeL, isNew, isNewL, Ty.isAgg, splice, idsL, ids, idsLL, reach, depth, St.dropL, resultsV, resultV, ↓reduceIte, Nat.reduceBEq, Nat.reduceAdd, Nat.reduceSub, Nat.reduceMul, Nat.reduceEqDiff, Nat.reduceLeDiff, Nat.reduceLT, effOf, effMem, effStore, effCall, effVar, effLit, effMake, effApp, Eff.ap, lend, evLit, evMake, evNil, freeze, onto, dropO, elemsV, sized, evCmp, eqT, eqG, minV, evUn, evField, evExtract, evIndexA, evIndexV, evSlice, optInt, fillV, placeOf, thawed, del, isNilSlice, plain, plainL, cellsJ, junkOk, St.with, setSlots, setObs, wantedD, seqOf, noRange, setAll, Array.size, te, einl, inls]
              rw [evRegion_run]; rotate_left; · rfl
              simp (maxSteps := 1000000) (implicitDefEqProofs := false) only [Try.ntmps14, Try.results14, efc14, k1, k2, k3, k4, k5, k6, encMk, g1, g2, g3, bne_self_eq_false, beq_self_eq_true, c17, ss, List.replicate, evOp, evPlain, evVal, evMem, St.eval, St.put, St.get, constV, List.set, lenV, sliceOf, arrayOf, fieldsOf, normOf, norm, firstRegion, look, maskFrom, evBin, evIndexS, evLoad, evVar, evStore, evFieldAddr, nameOf, St.alloc, St.drop, killL, kill, killAll, killObs, killOb, upd, cells?, part, retag, retagL, putIn, refFree, refFreeL, isNew, isNewL, Ty.isAgg, splice, idsL, ids, idsLL, reach, depth, St.dropL, resultsV, resultV, ↓reduceIte, Nat.reduceBEq, Nat.reduceAdd, Nat.reduceSub, Nat.reduceMul, Nat.reduceEqDiff, Nat.reduceLeDiff, Nat.reduceLT, effOf, effMem, effStore, effCall, effVar, effLit, effMake, effApp, Eff.ap, lend, evLit, evMake, evNil, freeze, onto, dropO, elemsV, sized, evCmp, eqT, eqG, minV, evUn, evField, evExtract, evIndexA, evIndexV, evSlice, optInt, fillV, placeOf, thawed, del, isNilSlice, plain, plainL, cellsJ, junkOk, St.with, setSlots, setObs, wantedD, seqOf, noRange, setAll, Array.size, te, einl, inls]
          · rw [if_neg (fun h => g2 h.2)] at k5 k6
            simp (maxSteps := 1000000) (implicitDefEqProofs := false) only [Try.ntmps14, Try.results14, efc14, k1, k2, k3, k4, k5, k6, encMk, g1, g2, bne_self_eq_false, beq_self_eq_true, c17, ss, List.replicate, evOp, evPlain, evVal, evMem, St.eval, St.put, St.get, constV, List.set, lenV, sliceOf, arrayOf, fieldsOf, normOf, norm, firstRegion, look, maskFrom, evBin, evIndexS, evLoad, evVar, evStore, evFieldAddr, nameOf, St.alloc, St.drop, killL, kill, killAll, killObs, killOb, upd, cells?, part, retag, retagL, putIn, refFree, refFreeL, isNew, isNewL, Ty.isAgg, splice, idsL, ids, idsLL, reach, depth, St.dropL, resultsV, resultV, ↓reduceIte, Nat.reduceBEq, Nat.reduceAdd, Nat.reduceSub, Nat.reduceMul, Nat.reduceEqDiff, Nat.reduceLeDiff, Nat.reduceLT, effOf, effMem, effStore, effCall, effVar, effLit, effMake, effApp, Eff.ap, lend, evLit, evMake, evNil, freeze, onto, dropO, elemsV, sized, evCmp, eqT, eqG, minV, evUn, evField, evExtract, evIndexA, evIndexV, evSlice, optInt, fillV, placeOf, thawed, del, isNilSlice, plain, plainL, cellsJ, junkOk, St.with, setSlots, setObs, wantedD, seqOf, noRange, setAll, Array.size, te, einl, inls]
            rw [evRegion_run]; rotate_left; · rfl
            simp (maxSteps := 1000000) (implicitDefEqProofs := false) only [Try.ntmps14, Try.results14, efc14, k1, k2, k3, k4, k5, k6, encMk, g1, g2, bne_self_eq_false, beq_self_eq_true, c17, ss, List.replicate, evOp, evPlain, evVal, evMem, St.eval, St.put, St.get, constV, List.set, lenV, sliceOf, arrayOf, fieldsOf, normOf, norm, firstRegion, look, maskFrom, evBin, evIndexS, evLoad, evVar, evStore, evFieldAddr, nameOf, St.alloc, St.drop, killL, kill, killAll, killObs, killOb, upd, cells?, part, retag, retagL, putIn, refFree, refFreeL, isNew, isNewL, Ty.isAgg, splice, idsL, ids, idsLL, reach, depth, St.dropL, resultsV, resultV, ↓reduceIte, Nat.reduceBEq, Nat.reduceAdd, Nat.reduceSub, Nat.reduceMul, Nat.reduceEqDiff, Nat.reduceLeDiff, Nat.reduceLT, effOf, effMem, effStore, effCall, effVar, effLit, effMake, effApp, Eff.ap, lend, evLit, evMake, evNil, freeze, onto, dropO, elemsV, sized, evCmp, eqT, eqG, minV, evUn, evField, evExtract, evIndexA, evIndexV, evSlice, optInt, fillV, placeOf, thawed, del, isNilSlice, plain, plainL, cellsJ, junkOk, St.with, setSlots, setObs, wantedD, seqOf, noRange, setAll, Array.size, te, einl, inls]
        · rw [if_neg (fun h => g1 h.1)] at k5 k6
          simp (maxSteps := 1000000) (implicitDefEqProofs := false) only [Try.ntmps14, Try.results14, efc14, k1, k2, k3, k4, k5, k6, encMk, g1, bne_self_eq_false, beq_self_eq_true, c17, ss, List.replicate, evOp, evPlain, evVal, evMem, St.eval, St.put, St.get, constV, List.set, lenV, sliceOf, arrayOf, fieldsOf, normOf, norm, firstRegion, look, maskFrom, evBin, evIndexS, evLoad, evVar, evStore, evFieldAddr, nameOf, St.alloc, St.drop, killL, kill, killAll, killObs, killOb, upd, cells?, part, retag, retagL, putIn, refFree, refFreeL, isNew, isNewL, Ty.isAgg, splice, idsL, ids, idsLL, reach, depth, St.dropL, resultsV, resultV, ↓reduceIte, Nat.reduceBEq, Nat.reduceAdd, Nat.reduceSub, Nat.reduceMul, Nat.reduceEqDiff, Nat.reduceLeDiff, Nat.reduceLT, effOf, effMem, effStore, effCall, effVar, effLit, effMake, effApp, Eff.ap, lend, evLit, evMake, evNil, freeze, onto, dropO, elemsV, sized, evCmp, eqT, eqG, minV, evUn, evField, evExtract, evIndexA, evIndexV, evSlice, optInt, fillV, placeOf, thawed, del, isNilSlice, plain, plainL, cellsJ, junkOk, St.with, setSlots, setObs, wantedD, seqOf, noRange, setAll, Array.size, te, einl, inls]
          rw [evRegion_run]; rotate_left; · rfl
          simp (maxSteps := 1000000) (implicitDefEqProofs := false) only [Try.ntmps14, Try.results14, efc14, k1, k2, k3, k4, k5, k6, encMk, g1, bne_self_eq_false, beq_self_eq_true, c17, ss, List.replicate, evOp, evPlain, evVal, evMem, St.eval, St.put, St.get, constV, List.set, lenV, sliceOf, arrayOf, fieldsOf, normOf, norm, firstRegion, look, maskFrom, evBin, evIndexS, evLoad, evVar, evStore, evFieldAddr, nameOf, St.alloc, St.drop, killL, kill, killAll, killObs, killOb, upd, cells?, part, retag, retagL, putIn, refFree, refFreeL, isNew, isNewL, Ty.isAgg, splice, idsL, ids, idsLL, reach, depth, St.dropL, resultsV, resultV, ↓reduceIte, Nat.reduceBEq, Nat.reduceAdd, Nat.reduceSub, Nat.reduceMul, Nat.reduceEqDiff, Nat.reduceLeDiff, Nat.reduceLT, effOf, effMem, effStore, effCall, effVar, effLit, effMake, effApp, Eff.ap, lend, evLit, evMake, evNil, freeze, onto, dropO, elemsV, sized, evCmp, eqT, eqG, minV, evUn, evField, evExtract, evIndexA, evIndexV, evSlice, optInt, fillV, placeOf, thawed, del, isNilSlice, plain, plainL, cellsJ, junkOk, St.with, setSlots, setObs, wantedD, seqOf, noRange, setAll, Array.size, te, einl, inls]
      · have h3' : (re != 0) = true := by simpa using h3
        subst h1; subst h2
        simp (maxSteps := 1000000) (implicitDefEqProofs := false) only [Try.ntmps14, Try.results14, efc14, k1, k2, k3, k4, encMk, h3', bne_self_eq_false, beq_self_eq_true, c17, ss, List.replicate, evOp, evPlain, evVal, evMem, St.eval, St.put, St.get, constV, List.set, lenV, sliceOf, arrayOf, fieldsOf, normOf, norm, firstRegion, look, maskFrom, evBin, evIndexS, evLoad, evVar, evStore, evFieldAddr, nameOf, St.alloc, St.drop, killL, kill, killAll, killObs, killOb, upd, cells?, part, retag, retagL, putIn, refFree, refFreeL, isNew, isNewL, Ty.isAgg, splice, idsL, ids, idsLL, reach, depth, St.dropL, resultsV, resultV, ↓reduceIte, Nat.reduceBEq, Nat.reduceAdd, Nat.reduceSub, Nat.reduceMul, Nat.reduceEqDiff, Nat.reduceLeDiff, Nat.reduceLT, effOf, effMem, effStore, effCall, effVar, effLit, effMake, effApp, Eff.ap, lend, evLit, evMake, evNil, freeze, onto, dropO, elemsV, sized, evCmp, eqT, eqG, minV, evUn, evField, evExtract, evIndexA, evIndexV, evSlice, optInt, fillV, placeOf, thawed, del, isNilSlice, plain, plainL, cellsJ, junkOk, St.with, setSlots, setObs, wantedD, seqOf, noRange, setAll, Array.size, te, einl, inls]
    · have h2' : (je != 0) = true := by simpa using h2
      subst h1
      simp (maxSteps := 1000000) (implicitDefEqProofs := false) only [Try.ntmps14, Try.results14, efc14, k1, k2, k3, k4, encMk, h2', bne_self_eq_false, beq_self_eq_true, c17, ss, List.replicate, evOp, evPlain, evVal, evMem, St.eval, St.put, St.get, constV, List.set, lenV, sliceOf, arrayOf, fieldsOf, normOf, norm, firstRegion, look, maskFrom, evBin, evIndexS, evLoad, evVar, evStore, evFieldAddr, nameOf, St.alloc, St.drop, killL, kill, killAll, killObs, killOb, upd, cells?, part, retag, retagL, putIn, refFree, refFreeL, isNew, isNewL, Ty.isAgg, splice, idsL, ids, idsLL, reach, depth, St.dropL, resultsV, resultV, ↓reduceIte, Nat.reduceBEq, Nat.reduceAdd, Nat.reduceSub, Nat.reduceMul, Nat.reduceEqDiff, Nat.reduceLeDiff, Nat.reduceLT, effOf, effMem, effStore, effCall, effVar, effLit, effMake, effApp, Eff.ap, lend, evLit, evMake, evNil, freeze, onto, dropO, elemsV, sized, evCmp, eqT, eqG, minV, evUn, evField, evExtract, evIndexA, evIndexV, evSlice, optInt, fillV, placeOf, thawed, del, isNilSlice, plain, plainL, cellsJ, junkOk, St.with, setSlots, setObs, wantedD, seqOf, noRange, setAll, Array.size, te, einl, inls]
  · have h1' : (e != 0) = true := by simpa using h1
    simp (maxSteps := 1000000) (implicitDefEqProofs := false) only [Try.ntmps14, Try.results14, efc14, k1, k2, k3, k4, encMk, h1', bne_self_eq_false, beq_self_eq_true, c17, ss, List.replicate, evOp, evPlain, evVal, evMem, St.eval, St.put, St.get, constV, List.set, lenV, sliceOf, arrayOf, fieldsOf, normOf, norm, firstRegion, look, maskFrom, evBin, evIndexS, evLoad, evVar, evStore, evFieldAddr, nameOf, St.alloc, St.drop, killL, kill, killAll, killObs, killOb, upd, cells?, part, retag, retagL, putIn, refFree, refFreeL, isNew, isNewL, Ty.isAgg, splice, idsL, ids, idsLL, reach, depth, St.dropL, resultsV, resultV, ↓reduceIte, Nat.reduceBEq, Nat.reduceAdd, Nat.reduceSub, Nat.reduceMul, Nat.reduceEqDiff, Nat.reduceLeDiff, Nat.reduceLT, effOf, effMem, effStore, effCall, effVar, effLit, effMake, effApp, Eff.ap, lend, evLit, evMake, evNil, freeze, onto, dropO, elemsV, sized, evCmp, eqT, eqG, minV, evUn, evField, evExtract, evIndexA, evIndexV, evSlice, optInt, fillV, placeOf, thawed, del, isNilSlice, plain, plainL, cellsJ, junkOk, St.with, setSlots, setObs, wantedD, seqOf, noRange, setAll, Array.size, te, einl, inls]

end Go.AM.A
end
