import Derived.Test.YtffbfhjcpgcdeaaCRollW
set_option linter.unusedSimpArgs false

namespace Go.AM.C
open Go Go.Proofs

def wasteR (xs : List Run) (l : List Art) (ps : List (Int × Int)) : List (Int × Int) × Int := if accE xs l ps = 0 then (wasteL l ((expand xs).length : Nat) 0 ps, 0) else ([], accE xs l ps)

theorem okT37 : okCode (Try.f37.body.getD .skip) = true := by decide +kernel

set_option maxHeartbeats 8000000 in
theorem c37 (xs : List Run) (l : List Art) (ps : List (Int × Int)) (hx : xs.length ≤ 100000) (hl : l.length ≤ 100000) (hn : ps.length ≤ 100000) :
    (orcω E X0).call 37 [.sl false (xs.map encRun), .sl false (l.map encArt), .sl false (ps.map encPc)] = some (encWh (wasteR xs l ps)) := by
  refine call_of rfl fn37 rfl ?_
  have hok := okT37
  simp only [Try.f37, Option.getD_some, okCode, Bool.and_eq_true, Bool.and_true, Bool.true_and] at hok
  have k1 := c58 xs l ps hx hl hn
  unfold accV at k1
  unfold wasteR accE
  by_cases he : errM xs l = 0
  · rw [if_pos he] at k1 ⊢
    by_cases hc : checkL (expand xs) l 0 ps = 0
    · rw [hc] at k1 ⊢
      rw [if_pos rfl]
      have hfit := check_fits hc
      have g5 := offs_len (expand xs) l 0
      have hN := err_len he
      simp (maxSteps := 1000000) (implicitDefEqProofs := false) only [Try.ntmps37, Try.results37, efc37, fc37, k1, bne_self_eq_false, encWh, ss, List.replicate, evOp, evPlain, evVal, evMem, St.eval, St.put, St.get, constV, List.set, lenV, sliceOf, arrayOf, fieldsOf, normOf, norm, firstRegion, look, maskFrom, evBin, evIndexS, evLoad, evVar, evStore, evFieldAddr, nameOf, St.alloc, St.drop, killL, kill, killAll, killObs, killOb, upd, cells?, part, retag, retagL, putIn, refFree, refFreeL, isNew, isNewL, Ty.isAgg, splice, idsL, ids, idsLL, reach, depth, St.dropL, resultsV, resultV, ↓reduceIte, Nat.reduceBEq, Nat.reduceAdd, Nat.reduceSub, Nat.reduceMul, Nat.reduceEqDiff, Nat.reduceLeDiff, Nat.reduceLT, effOf, effMem, effStore, effCall, effVar, effLit, effMake, effApp, Eff.ap, lend, evLit, evMake, evNil, freeze, onto, dropO, elemsV, sized, evCmp, eqT, eqG, minV, evUn, evField, evExtract, evIndexA, evIndexV, evSlice, optInt, fillV, placeOf, thawed, del, isNilSlice, plain, plainL, cellsJ, junkOk, St.with, setSlots, setObs, wantedD, seqOf, noRange, setAll, Array.size, te, einl, inls]
      generalize hr : loopAt _ _ _ _ _ _ = r; revert r
      refine loop_list ps (fun pre _ => [(10, .own 10 0 (gapsL l 0 pre).length), (11, .int .i64 (endL l 0 pre)), (26, .int .i64 pre.length)]) (fun pre _ => [(8, { es := 3, flat := true, t := false, app := false, elems := [.agg [.sl false (xs.map encRun), .int .i64 ((expand xs).length : Nat), .sl false (offs (expand xs) 0 l)]] }), (10, { es := 2, flat := true, t := true, app := true, elems := (gapsL l 0 pre).map encSp })])
        (fun pre (_ : Unit) => True) () (by omega) (by simp (maxSteps := 1000000) (implicitDefEqProofs := false) only [gapsL, endL, List.map_nil, ss, List.replicate, evOp, evPlain, evVal, evMem, St.eval, St.put, St.get, constV, List.set, lenV, sliceOf, arrayOf, fieldsOf, normOf, norm, firstRegion, look, maskFrom, evBin, evIndexS, evLoad, evVar, evStore, evFieldAddr, nameOf, St.alloc, St.drop, killL, kill, killAll, killObs, killOb, upd, cells?, part, retag, retagL, putIn, refFree, refFreeL, isNew, isNewL, Ty.isAgg, splice, idsL, ids, idsLL, reach, depth, St.dropL, resultsV, resultV, ↓reduceIte, Nat.reduceBEq, Nat.reduceAdd, Nat.reduceSub, Nat.reduceMul, Nat.reduceEqDiff, Nat.reduceLeDiff, Nat.reduceLT, effOf, effMem, effStore, effCall, effVar, effLit, effMake, effApp, Eff.ap, lend, evLit, evMake, evNil, freeze, onto, dropO, elemsV, sized, evCmp, eqT, eqG, minV, evUn, evField, evExtract, evIndexA, evIndexV, evSlice, optInt, fillV, placeOf, thawed, del, isNilSlice, plain, plainL, cellsJ, junkOk, St.with, setSlots, setObs, wantedD, seqOf, noRange, setAll, Array.size, te, einl, inls]) trivial (fun _ hi => ?_) (fun pre p post _ hp hi g1 g2 g3 g4 => ?_)
      · have hw := waste_gaps l ((expand xs).length : Nat) ps 0
        have hgl := gaps_len l ps 0
        have hroom : roomy ((gapsL l 0 ps).length + 1) 16 = true := by simp [roomy]; omega
        have hbig : (gapsL l 0 ps).length + 1 ≤ 4294967296 := by omega
        by_cases hlast : endL l 0 ps < ((expand xs).length : Int)
        · rw [if_pos hlast] at hw
          rw [hw]
          simp (maxSteps := 1000000) (implicitDefEqProofs := false) only [Int.lt_irrefl, hlast, hroom, hbig, Try.ntmps37, Try.results37, efc37, fc37, ss, List.replicate, evOp, evPlain, evVal, evMem, St.eval, St.put, St.get, constV, List.set, lenV, sliceOf, arrayOf, fieldsOf, normOf, norm, firstRegion, look, maskFrom, evBin, evIndexS, evLoad, evVar, evStore, evFieldAddr, nameOf, St.alloc, St.drop, killL, kill, killAll, killObs, killOb, upd, cells?, part, retag, retagL, putIn, refFree, refFreeL, isNew, isNewL, Ty.isAgg, splice, idsL, ids, idsLL, reach, depth, St.dropL, resultsV, resultV, ↓reduceIte, Nat.reduceBEq, Nat.reduceAdd, Nat.reduceSub, Nat.reduceMul, Nat.reduceEqDiff, Nat.reduceLeDiff, Nat.reduceLT, effOf, effMem, effStore, effCall, effVar, effLit, effMake, effApp, Eff.ap, lend, evLit, evMake, evNil, freeze, onto, dropO, elemsV, sized, evCmp, eqT, eqG, minV, evUn, evField, evExtract, evIndexA, evIndexV, evSlice, optInt, fillV, placeOf, thawed, del, isNilSlice, plain, plainL, cellsJ, junkOk, St.with, setSlots, setObs, wantedD, seqOf, noRange, setAll, Array.size, te, einl, inls]
          have e1 : (gapsL l 0 ps).map encSp ++ [.agg [.int .i64 (endL l 0 ps), .int .i64 ((expand xs).length : Nat)]] = (gapsL l 0 ps ++ [(endL l 0 ps, ((expand xs).length : Int))]).map encSp := by rw [List.map_append]; rfl
          rw [e1, if_pos (by simp), List.take_of_length_le (by simp)]
          rfl
        · rw [if_neg hlast, List.append_nil] at hw
          rw [hw]
          simp (maxSteps := 1000000) (implicitDefEqProofs := false) only [Int.lt_irrefl, hlast, Try.ntmps37, Try.results37, efc37, fc37, ss, List.replicate, evOp, evPlain, evVal, evMem, St.eval, St.put, St.get, constV, List.set, lenV, sliceOf, arrayOf, fieldsOf, normOf, norm, firstRegion, look, maskFrom, evBin, evIndexS, evLoad, evVar, evStore, evFieldAddr, nameOf, St.alloc, St.drop, killL, kill, killAll, killObs, killOb, upd, cells?, part, retag, retagL, putIn, refFree, refFreeL, isNew, isNewL, Ty.isAgg, splice, idsL, ids, idsLL, reach, depth, St.dropL, resultsV, resultV, ↓reduceIte, Nat.reduceBEq, Nat.reduceAdd, Nat.reduceSub, Nat.reduceMul, Nat.reduceEqDiff, Nat.reduceLeDiff, Nat.reduceLT, effOf, effMem, effStore, effCall, effVar, effLit, effMake, effApp, Eff.ap, lend, evLit, evMake, evNil, freeze, onto, dropO, elemsV, sized, evCmp, eqT, eqG, minV, evUn, evField, evExtract, evIndexA, evIndexV, evSlice, optInt, fillV, placeOf, thawed, del, isNilSlice, plain, plainL, cellsJ, junkOk, St.with, setSlots, setObs, wantedD, seqOf, noRange, setAll, Array.size, te, einl, inls]
      · obtain ⟨a, f1, f2, f3, f4, f5, f6, f7, _⟩ := fits_in (hfit p (by rw [hp]; simp))
        have a2 := (validA_len (errM_zero he).2.2).2 a (List.mem_of_getElem? f1)
        have g6 := offs_get (expand xs) l 0 p.2.toNat
        rw [f1, Option.map_some, Nat.zero_add] at g6
        have hpl : pre.length ≤ 100000 := by omega
        have gs := gaps_snoc l p pre 0
        have es := endL_snoc l p pre 0
        rw [f6] at es
        have hgl := gaps_len l pre 0
        have hroom : roomy ((gapsL l 0 pre).length + 1) 16 = true := by simp [roomy]; omega
        have hbig : (gapsL l 0 pre).length + 1 ≤ 4294967296 := by omega
        have w1 : IntKind.i64.wrap (p.1 + a.len) = p.1 + a.len := wrap_in (by omega)
        by_cases hgap : endL l 0 pre < p.1
        · rw [if_pos hgap] at gs
          simp (maxSteps := 1000000) (implicitDefEqProofs := false) only [g1, g2, g3, g4, g5, g6, f2, f3, w1, hgap, hroom, hbig, encPc, encOffer, Int.natCast_nonneg, Int.toNat_natCast, List.getElem?_map, evRegion_st hok, ss, List.replicate, evOp, evPlain, evVal, evMem, St.eval, St.put, St.get, constV, List.set, lenV, sliceOf, arrayOf, fieldsOf, normOf, norm, firstRegion, look, maskFrom, evBin, evIndexS, evLoad, evVar, evStore, evFieldAddr, nameOf, St.alloc, St.drop, killL, kill, killAll, killObs, killOb, upd, cells?, part, retag, retagL, putIn, refFree, refFreeL, isNew, isNewL, Ty.isAgg, splice, idsL, ids, idsLL, reach, depth, St.dropL, resultsV, resultV, ↓reduceIte, Nat.reduceBEq, Nat.reduceAdd, Nat.reduceSub, Nat.reduceMul, Nat.reduceEqDiff, Nat.reduceLeDiff, Nat.reduceLT, effOf, effMem, effStore, effCall, effVar, effLit, effMake, effApp, Eff.ap, lend, evLit, evMake, evNil, freeze, onto, dropO, elemsV, sized, evCmp, eqT, eqG, minV, evUn, evField, evExtract, evIndexA, evIndexV, evSlice, optInt, fillV, placeOf, thawed, del, isNilSlice, plain, plainL, cellsJ, junkOk, St.with, setSlots, setObs, wantedD, seqOf, noRange, setAll, Array.size, te, einl, inls]
          have e2 : (gapsL l 0 (pre ++ [p])).length = (gapsL l 0 pre).length + 1 := by rw [gs]; simp
          have e3 : (gapsL l 0 (pre ++ [p])).map encSp = (gapsL l 0 pre).map encSp ++ [.agg [.int .i64 (endL l 0 pre), .int .i64 p.1]] := by rw [gs, List.map_append]; rfl
          exact ⟨(), by rw [e2, e3, es]⟩
        · rw [if_neg hgap, List.append_nil] at gs
          simp (maxSteps := 1000000) (implicitDefEqProofs := false) only [g1, g2, g3, g4, g5, g6, f2, f3, w1, hgap, encPc, encOffer, Int.natCast_nonneg, Int.toNat_natCast, List.getElem?_map, evRegion_st hok, ss, List.replicate, evOp, evPlain, evVal, evMem, St.eval, St.put, St.get, constV, List.set, lenV, sliceOf, arrayOf, fieldsOf, normOf, norm, firstRegion, look, maskFrom, evBin, evIndexS, evLoad, evVar, evStore, evFieldAddr, nameOf, St.alloc, St.drop, killL, kill, killAll, killObs, killOb, upd, cells?, part, retag, retagL, putIn, refFree, refFreeL, isNew, isNewL, Ty.isAgg, splice, idsL, ids, idsLL, reach, depth, St.dropL, resultsV, resultV, ↓reduceIte, Nat.reduceBEq, Nat.reduceAdd, Nat.reduceSub, Nat.reduceMul, Nat.reduceEqDiff, Nat.reduceLeDiff, Nat.reduceLT, effOf, effMem, effStore, effCall, effVar, effLit, effMake, effApp, Eff.ap, lend, evLit, evMake, evNil, freeze, onto, dropO, elemsV, sized, evCmp, eqT, eqG, minV, evUn, evField, evExtract, evIndexA, evIndexV, evSlice, optInt, fillV, placeOf, thawed, del, isNilSlice, plain, plainL, cellsJ, junkOk, St.with, setSlots, setObs, wantedD, seqOf, noRange, setAll, Array.size, te, einl, inls]
          exact ⟨(), by rw [gs, es]⟩
    · rw [if_neg hc]
      have hc' : (checkL (expand xs) l 0 ps != 0) = true := by simpa using hc
      simp (maxSteps := 1000000) (implicitDefEqProofs := false) only [Try.ntmps37, Try.results37, efc37, fc37, k1, hc', encWh, List.map_nil, ss, List.replicate, evOp, evPlain, evVal, evMem, St.eval, St.put, St.get, constV, List.set, lenV, sliceOf, arrayOf, fieldsOf, normOf, norm, firstRegion, look, maskFrom, evBin, evIndexS, evLoad, evVar, evStore, evFieldAddr, nameOf, St.alloc, St.drop, killL, kill, killAll, killObs, killOb, upd, cells?, part, retag, retagL, putIn, refFree, refFreeL, isNew, isNewL, Ty.isAgg, splice, idsL, ids, idsLL, reach, depth, St.dropL, resultsV, resultV, ↓reduceIte, Nat.reduceBEq, Nat.reduceAdd, Nat.reduceSub, Nat.reduceMul, Nat.reduceEqDiff, Nat.reduceLeDiff, Nat.reduceLT, effOf, effMem, effStore, effCall, effVar, effLit, effMake, effApp, Eff.ap, lend, evLit, evMake, evNil, freeze, onto, dropO, elemsV, sized, evCmp, eqT, eqG, minV, evUn, evField, evExtract, evIndexA, evIndexV, evSlice, optInt, fillV, placeOf, thawed, del, isNilSlice, plain, plainL, cellsJ, junkOk, St.with, setSlots, setObs, wantedD, seqOf, noRange, setAll, Array.size, te, einl, inls]
  · rw [if_neg he] at k1 ⊢
    rw [if_neg he]
    have he' : (errM xs l != 0) = true := by simpa using he
    simp (maxSteps := 1000000) (implicitDefEqProofs := false) only [Try.ntmps37, Try.results37, efc37, fc37, k1, bench0, he', encWh, List.map_nil, ss, List.replicate, evOp, evPlain, evVal, evMem, St.eval, St.put, St.get, constV, List.set, lenV, sliceOf, arrayOf, fieldsOf, normOf, norm, firstRegion, look, maskFrom, evBin, evIndexS, evLoad, evVar, evStore, evFieldAddr, nameOf, St.alloc, St.drop, killL, kill, killAll, killObs, killOb, upd, cells?, part, retag, retagL, putIn, refFree, refFreeL, isNew, isNewL, Ty.isAgg, splice, idsL, ids, idsLL, reach, depth, St.dropL, resultsV, resultV, ↓reduceIte, Nat.reduceBEq, Nat.reduceAdd, Nat.reduceSub, Nat.reduceMul, Nat.reduceEqDiff, Nat.reduceLeDiff, Nat.reduceLT, effOf, effMem, effStore, effCall, effVar, effLit, effMake, effApp, Eff.ap, lend, evLit, evMake, evNil, freeze, onto, dropO, elemsV, sized, evCmp, eqT, eqG, minV, evUn, evField, evExtract, evIndexA, evIndexV, evSlice, optInt, fillV, placeOf, thawed, del, isNilSlice, plain, plainL, cellsJ, junkOk, St.with, setSlots, setObs, wantedD, seqOf, noRange, setAll, Array.size, te, einl, inls]

def encBs (n : Nat) (g : Int → Bool) : List V := (List.range n).map fun (i : Nat) => V.bool (g i)

theorem bs_len (n : Nat) (g : Int → Bool) : (encBs n g).length = n := by simp [encBs]
theorem bs_get (n : Nat) (g : Int → Bool) {f : Nat} (h : f < n) : (encBs n g)[f]? = some (.bool (g f)) := by
  unfold encBs
  rw [List.getElem?_map, List.getElem?_range h]
  rfl
theorem bs_congr (n : Nat) {g g' : Int → Bool} (h : ∀ i : Nat, i < n → g i = g' i) : encBs n g = encBs n g' := by
  apply List.ext_getElem?
  intro i
  by_cases hi : i < n
  · rw [bs_get n g hi, bs_get n g' hi, h i hi]
  · rw [List.getElem?_eq_none (by rw [bs_len]; omega), List.getElem?_eq_none (by rw [bs_len]; omega)]
theorem bs_set (n : Nat) (g : Int → Bool) {f : Nat} (h : f < n) (g' : Int → Bool) (h1 : g' f = true) (h2 : ∀ i : Nat, i ≠ f → g' i = g i) : (encBs n g).set f (.bool true) = encBs n g' := by
  apply List.ext_getElem?
  intro i
  by_cases hi : i < n
  · rw [bs_get n g' hi]
    by_cases e : f = i
    · subst e
      rw [List.getElem?_set_self (by rw [bs_len]; omega), h1]
    · rw [List.getElem?_set_ne e, bs_get n g hi, h2 i (fun x => e x.symm)]
  · rw [List.getElem?_eq_none (by rw [List.length_set, bs_len]; omega), List.getElem?_eq_none (by rw [bs_len]; omega)]
theorem bs_zero (n : Nat) (g : Int → Bool) (h : ∀ i : Nat, i < n → g i = false) : List.replicate n (V.bool false) = encBs n g := by
  apply List.ext_getElem?
  intro i
  by_cases hi : i < n
  · rw [bs_get n g hi, h i hi, List.getElem?_replicate, if_pos (by omega)]
  · rw [List.getElem?_eq_none (by simp; omega), List.getElem?_eq_none (by rw [bs_len]; omega)]

def inB' (l : List Art) (ps : List (Int × Int)) (x : Int) : Bool := ps.any fun p => decide (p.1 ≤ x) && decide (x < p.1 + lenAt l p.2)
theorem inB_iff {l : List Art} {ps : List (Int × Int)} {x : Int} : inB' l ps x = true ↔ inP l ps x := by
  unfold inB' inP
  rw [List.any_eq_true]
  simp only [Bool.and_eq_true, decide_eq_true_eq]
theorem inB_snoc (l : List Art) (ps : List (Int × Int)) (p : Int × Int) (x : Int) : inB' l (ps ++ [p]) x = (inB' l ps x || (decide (p.1 ≤ x) && decide (x < p.1 + lenAt l p.2))) := by simp [inB']

structure Outs (l : List Art) (ps : List (Int × Int)) (i : Nat) (o : List (Int × Int)) : Prop where
  sep : Sep o
  low : ∀ s ∈ o, 0 ≤ s.1 ∧ s.2 ≤ (i : Int)
  cov : ∀ x, covers o x ↔ (0 ≤ x ∧ x < (i : Int) ∧ ¬ inP l ps x)
  len : o.length ≤ i

theorem outs_used {l : List Art} {ps : List (Int × Int)} {i : Nat} {o : List (Int × Int)} (h : Outs l ps i o) (hu : inP l ps i) : Outs l ps (i + 1) o := by
  refine ⟨h.sep, fun s hs => by have := h.low s hs; omega, fun x => ?_, by have := h.len; omega⟩
  rw [h.cov]
  constructor
  · rintro ⟨a, b, c⟩; exact ⟨a, by omega, c⟩
  · rintro ⟨a, b, c⟩
    by_cases e : x = (i : Int)
    · subst e; exact absurd hu c
    · exact ⟨a, by omega, c⟩

theorem outs_more {l : List Art} {ps : List (Int × Int)} {i : Nat} {o : List (Int × Int)} {s : Int × Int} (h : Outs l ps i (o ++ [s])) (hu : ¬ inP l ps i) (he : s.2 = (i : Int)) : Outs l ps (i + 1) (o ++ [(s.1, (i : Int) + 1)]) := by
  have hs := h.low s (by simp)
  refine ⟨sep_last o s _ h.sep (by omega), fun t ht => ?_, fun x => ?_, by have := h.len; simp at this ⊢; omega⟩
  · rcases List.mem_append.1 ht with ht | ht
    · have := h.low t (List.mem_append_left _ ht); omega
    · simp only [List.mem_singleton] at ht; subst ht; dsimp only; omega
  · have hc := h.cov x
    rw [covers_app, covers_one] at hc ⊢
    have se := sep_end o s h.sep
    dsimp only
    constructor
    · rintro (a | ⟨a, b⟩)
      · have := hc.1 (.inl a); exact ⟨this.1, by omega, this.2.2⟩
      · by_cases e : x = (i : Int)
        · subst e; exact ⟨by omega, by omega, hu⟩
        · have := hc.1 (.inr ⟨a, by omega⟩); exact ⟨this.1, by omega, this.2.2⟩
    · rintro ⟨a, b, c⟩
      by_cases e : x = (i : Int)
      · subst e; exact .inr ⟨by omega, by omega⟩
      · rcases hc.2 ⟨a, by omega, c⟩ with d | ⟨d, f⟩
        · exact .inl d
        · exact .inr ⟨d, by omega⟩

theorem outs_new {l : List Art} {ps : List (Int × Int)} {i : Nat} {o : List (Int × Int)} (h : Outs l ps i o) (hu : ¬ inP l ps i) (he : o = [] ∨ ∃ o' s, o = o' ++ [s] ∧ s.2 ≠ (i : Int)) : Outs l ps (i + 1) (o ++ [((i : Int), (i : Int) + 1)]) := by
  refine ⟨?_, fun t ht => ?_, fun x => ?_, by have := h.len; simp; omega⟩
  · rcases he with rfl | ⟨o', s, rfl, hne⟩
    · show (i : Int) < (i : Int) + 1
      omega
    · have := h.low s (by simp)
      rw [List.append_assoc]
      exact sep_snoc o' s _ h.sep (by dsimp only; omega) (by dsimp only; omega)
  · rcases List.mem_append.1 ht with ht | ht
    · have := h.low t ht; omega
    · simp only [List.mem_singleton] at ht; subst ht; dsimp only; omega
  · rw [covers_app, covers_one, h.cov]
    dsimp only
    constructor
    · rintro (⟨a, b, c⟩ | ⟨a, b⟩)
      · exact ⟨a, by omega, c⟩
      · have : x = (i : Int) := by omega
        subst this; exact ⟨by omega, by omega, hu⟩
    · rintro ⟨a, b, c⟩
      by_cases e : x = (i : Int)
      · subst e; exact .inr ⟨by omega, by omega⟩
      · exact .inl ⟨a, by omega, c⟩

theorem outs_end {ms : List Mk} {l : List Art} {ps : List (Int × Int)} {o : List (Int × Int)} (hl : validA l = 0) (hc : checkL ms l 0 ps = 0) (h : Outs l ps ms.length o) : o = wasteL l (ms.length : Nat) 0 ps := by
  obtain ⟨a, _, c⟩ := waste_ok hl hc
  exact sep_unique h.sep a fun x => by rw [h.cov, c]

theorem outs_zero (l : List Art) (ps : List (Int × Int)) : Outs l ps 0 [] := by
  refine ⟨trivial, fun s hs => (by cases hs), fun x => ?_, Nat.le_refl _⟩
  constructor
  · rintro ⟨s, hs, _⟩; cases hs
  · rintro ⟨a, b, _⟩; omega

end Go.AM.C
