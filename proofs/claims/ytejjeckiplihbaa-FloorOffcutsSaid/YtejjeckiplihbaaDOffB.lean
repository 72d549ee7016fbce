/-
What is left of the rolls: the document.
-/
import Derived.Test.YtejjeckiplihbaaDOff
set_option linter.unusedSimpArgs false
set_option maxRecDepth 20000

namespace Go.AM.D
open Go Go.AM Go.Proofs

def flagsL (L : Nat) (f : Nat → Bool) : List V := (List.range (L + 1)).map fun p => .bool (f p)
theorem flags_len (L : Nat) (f : Nat → Bool) : (flagsL L f).length = L + 1 := by simp [flagsL]
theorem flags_get {L p : Nat} (f : Nat → Bool) (h : p < L + 1) : (flagsL L f)[p]? = some (.bool (f p)) := by
  unfold flagsL
  rw [List.getElem?_map, List.getElem?_range h]
  rfl
theorem flags_set {L k : Nat} {f g : Nat → Bool} (hk : g k = true) (ho : ∀ p, ¬ p = k → g p = f p) : (flagsL L f).set k (.bool true) = flagsL L g := by
  apply List.ext_getElem?
  intro p
  rw [List.getElem?_set, flags_len]
  by_cases hp : p < L + 1
  · by_cases h : k = p
    · subst h
      rw [if_pos rfl, if_pos hp, flags_get g hp, hk]
    · rw [if_neg h, flags_get f hp, flags_get g hp, ho p (fun e => h e.symm)]
  · rw [List.getElem?_eq_none (l := flagsL L g) (by rw [flags_len]; omega), List.getElem?_eq_none (l := flagsL L f) (by rw [flags_len]; omega)]
    split
    · rename_i h; subst h; rw [if_neg hp]
    · rfl
theorem flags_zero (L : Nat) : List.replicate (L + 1) (V.bool false) = flagsL L fun _ => false := by
  apply List.ext_getElem?
  intro p
  rw [List.getElem?_replicate]
  split
  · rename_i h; rw [flags_get _ h]
  · rename_i h; rw [List.getElem?_eq_none (by rw [flags_len]; omega)]
theorem used_snoc (j : Job) (pre : List Cut) (x : Cut) (r p : Nat) : usedAt j (pre ++ [x]) r p = (usedAt j pre r p || (decide (x.r = (r : Int)) && decide (x.a ≤ p) && decide ((p : Int) < x.a + sizeM (stripOf j x)))) := by
  unfold usedAt
  rw [List.any_append]
  simp
theorem scan_from (u : Nat → Bool) : ∀ k : Nat, -1 ≤ (scanS u k).1 ∧ (scanS u k).1 < (k : Int) + 1 ∧ (scanS u k).2.length ≤ k
  | 0 => by simp [scanS]
  | k + 1 => by
    have ih := scan_from u k
    rw [scan_step]
    split
    · split
      · simp; omega
      · omega
    · split
      · dsimp only; omega
      · omega

theorem okT55 : okCode (Try.f55.body.getD .skip) = true := by decide +kernel
set_option maxRecDepth 20000 in
set_option maxHeartbeats 16000000 in
theorem c55 (j : Job) (cuts : List Cut) (hn : cuts.length ≤ 1000) : (orcω E X0).call 55 [encJob j, .sl false (cuts.map encCut)] = some (.tup [.sl true ((offR j cuts).map encGaps), .int .i64 (checkM j cuts)]) := by
  refine call_of rfl fn55 rfl ?_
  have hok := okT55
  simp only [Try.f55, Option.getD_some, okCode, Bool.and_eq_true, Bool.and_true, Bool.true_and] at hok
  have k1 := c53 j cuts (by omega)
  unfold offR
  by_cases he : checkM j cuts = 0
  rotate_left
  · rw [if_neg he]
    have q1 : (checkM j cuts != 0) = true := by simpa using he
    generalize checkM j cuts = e at *
    unfold encJob at k1 ⊢
    simp (maxSteps := 1000000) (implicitDefEqProofs := false) only [rowsOb, Try.ntmps55, Try.results55, efc55, fc55, k1, q1, List.map_nil, ss, sd, evOp, evPlain, evVal, evMem, St.get, sliceOf, arrayOf, fieldsOf, normOf, norm, look, evVar, evFieldAddr, nameOf, St.alloc, St.drop, killOb, part, splice, depth, resultsV, ↓reduceIte, Nat.reduceBEq, Nat.reduceAdd, Nat.reduceSub, Nat.reduceMul, Nat.reduceEqDiff, Nat.reduceLeDiff, Nat.reduceLT, effOf, effMem, effVar, effLit, effMake, effApp, lend, evLit, evNil, freeze, evField, evIndexT, orNil, evSlice, placeOf, evMap, mapOf, keyOk, evFrame, closed, fixed, sameEs, wit, Option.isSome_some, St.with, wantedD, Array.size, te, einl, inls, efr]
  rw [if_pos he, he]
  rw [he] at k1
  have hfit := checkM_zero he
  have hj := hfit.job
  have h6 := hj.nss
  have h5 := hj.nrs
  have hg := hfit.good
  have hfi := fit_in hfit
  have hrows : ∀ n, n ≤ j.rs.length → rowsM j (isort ltA cuts) n = (List.range n).map (gapsM j cuts) := fun n hnr => by
    unfold rowsM
    refine List.map_congr_left fun r hr => ?_
    exact off_gaps hfit (by have := List.mem_range.1 hr; omega)
  rw [hrows _ (Nat.le_refl _)]
  clear he hrows
  have hsn : ∀ n, (List.range (n + 1)).map (gapsM j cuts) = (List.range n).map (gapsM j cuts) ++ [gapsM j cuts n] := fun n => by
    rw [List.range_succ, List.map_append]; rfl
  have hln : ∀ n, ((List.range n).map (gapsM j cuts)).length = n := fun n => by simp
  generalize hR : (fun n => (List.range n).map (gapsM j cuts)) = R at *
  have hR' : ∀ n, (List.range n).map (gapsM j cuts) = R n := fun n => by rw [← hR]
  simp only [hR'] at hsn hln ⊢
  have hR0 : R 0 = [] := by rw [← hR]; rfl
  clear hR hR'
  unfold encJob at k1 ⊢
  simp (maxSteps := 1000000) (implicitDefEqProofs := false) only [rowsOb, Try.ntmps55, Try.results55, efc55, fc55, k1, bne_self_eq_false, List.length_map, ss, sd, evOp, evPlain, evVal, evMem, St.get, sliceOf, arrayOf, fieldsOf, normOf, norm, look, evVar, evFieldAddr, nameOf, St.alloc, St.drop, killOb, part, splice, depth, resultsV, ↓reduceIte, Nat.reduceBEq, Nat.reduceAdd, Nat.reduceSub, Nat.reduceMul, Nat.reduceEqDiff, Nat.reduceLeDiff, Nat.reduceLT, effOf, effMem, effVar, effLit, effMake, effApp, lend, evLit, evNil, freeze, evField, evIndexT, orNil, evSlice, placeOf, evMap, mapOf, keyOk, evFrame, closed, fixed, sameEs, wit, Option.isSome_some, St.with, wantedD, Array.size, te, einl, inls, efr]
  generalize hr : loopAt _ _ _ _ _ _ = r; revert r
  refine loop_nat j.rs.length (fun i _ => [(7, .own 7 0 i), (8, .int .i64 (i : Nat))]) (fun i _ => [(7, rowsOb (R i))]) (fun _ (_ : Unit) => True) () (by omega) (by simp (maxSteps := 1000000) (implicitDefEqProofs := false) only [rowsOb, hR0, List.map_nil, Int.natCast_zero, ss, sd, evOp, evPlain, evVal, evMem, St.get, sliceOf, arrayOf, fieldsOf, normOf, norm, look, evVar, evFieldAddr, nameOf, St.alloc, St.drop, killOb, part, splice, depth, resultsV, ↓reduceIte, Nat.reduceBEq, Nat.reduceAdd, Nat.reduceSub, Nat.reduceMul, Nat.reduceEqDiff, Nat.reduceLeDiff, Nat.reduceLT, effOf, effMem, effVar, effLit, effMake, effApp, lend, evLit, evNil, freeze, evField, evIndexT, orNil, evSlice, placeOf, evMap, mapOf, keyOk, evFrame, closed, fixed, sameEs, wit, Option.isSome_some, St.with, wantedD, Array.size, te, einl, inls, efr]) trivial (fun _ _ => ?_) (fun i _ _ a1 a2 a3 => ?_)
  · have t1 : ((R j.rs.length).map encGaps).take j.rs.length = (R j.rs.length).map encGaps := List.take_of_length_le (by simp [hln])
    have t2 : j.rs.length ≤ ((R j.rs.length).map encGaps).length := by simp [hln]
    simp (maxSteps := 1000000) (implicitDefEqProofs := false) only [rowsOb, Int.lt_irrefl, rowsOb, t1, t2, hln, Nat.le_refl, if_true, List.length_map, Try.ntmps55, Try.results55, efc55, fc55, ss, sd, evOp, evPlain, evVal, evMem, St.get, sliceOf, arrayOf, fieldsOf, normOf, norm, look, evVar, evFieldAddr, nameOf, St.alloc, St.drop, killOb, part, splice, depth, resultsV, ↓reduceIte, Nat.reduceBEq, Nat.reduceAdd, Nat.reduceSub, Nat.reduceMul, Nat.reduceEqDiff, Nat.reduceLeDiff, Nat.reduceLT, effOf, effMem, effVar, effLit, effMake, effApp, lend, evLit, evNil, freeze, evField, evIndexT, orNil, evSlice, placeOf, evMap, mapOf, keyOk, evFrame, closed, fixed, sameEs, wit, Option.isSome_some, St.with, wantedD, Array.size, te, einl, inls, efr]
  · have gr := roll_get (j := j) (c := ⟨0, i, 0⟩) (by dsimp only; omega)
    rw [Int.toNat_natCast] at gr
    have hlr := (hj.rs _ (List.mem_of_getElem? gr)).1
    have hgap : gapsM j cuts i = (scanS (endU (usedAt j cuts i) (rollOf j ⟨0, i, 0⟩).l.toNat) ((rollOf j ⟨0, i, 0⟩).l.toNat + 1)).2 := rfl
    have hcl : ∀ x ∈ cuts, x.r = (i : Int) → x.a + sizeM (stripOf j x) ≤ (rollOf j ⟨0, i, 0⟩).l := fun x hx hxr => by
      have := (hfi x hx).2
      rw [roll_eq hxr] at this
      exact this
    have hsn := hsn i
    have hln := hln i
    rw [hgap] at hsn
    obtain ⟨L, hL⟩ : ∃ L : Nat, (rollOf j ⟨0, i, 0⟩).l = (L : Int) := ⟨(rollOf j ⟨0, i, 0⟩).l.toNat, by omega⟩
    generalize rollOf j ⟨0, i, 0⟩ = ro at *
    obtain ⟨rl, rph, rsh⟩ := ro
    dsimp only at hL
    subst hL
    dsimp only at *
    rw [Int.toNat_natCast] at hsn
    have w0 : IntKind.i64.wrap ((L : Int) + 1) = ((L + 1 : Nat) : Int) := by rw [wrap_in (by omega)]; omega
    have hroom : roomy (L + 1) 1 = true := by simp [roomy]; omega
    have u1 : (((L + 1 : Nat) : Int) ≤ 4294967296) = True := eq_true (by omega)
    have zf := flags_zero L
    have gL := flags_get (L := L) (fun _ => false) (p := L) (by omega)
    have sL := flags_set (L := L) (k := L) (f := fun _ => false) (g := endU (usedAt j [] i) L) endU_end (fun p hp => by
      unfold endU usedAt
      rw [decide_eq_false hp]
      rfl)
    have uL : (L : Int) < ((L + 1 : Nat) : Int) := by omega
    simp (maxSteps := 1000000) (implicitDefEqProofs := false) only [rowsOb, a2, gr, w0, hroom, u1, zf, gL, sL, uL, flags_len, encRoll, Int.natCast_nonneg, Int.toNat_natCast, List.getElem?_map, List.length_map, ss, sd, evOp, evPlain, evVal, evMem, St.get, sliceOf, arrayOf, fieldsOf, normOf, norm, look, evVar, evFieldAddr, nameOf, St.alloc, St.drop, killOb, part, splice, depth, resultsV, ↓reduceIte, Nat.reduceBEq, Nat.reduceAdd, Nat.reduceSub, Nat.reduceMul, Nat.reduceEqDiff, Nat.reduceLeDiff, Nat.reduceLT, effOf, effMem, effVar, effLit, effMake, effApp, lend, evLit, evNil, freeze, evField, evIndexT, orNil, evSlice, placeOf, evMap, mapOf, keyOk, evFrame, closed, fixed, sameEs, wit, Option.isSome_some, St.with, wantedD, Array.size, te, einl, inls, efr]
    generalize hr : loopAt _ _ _ _ _ _ = r; revert r
    refine loop_list cuts (fun pre _ => [(10, .int .i64 pre.length)]) (fun pre _ => [(9, obB (flagsL L (endU (usedAt j pre i) L)))]) (fun _ (_ : Unit) => True) () (by omega) (by simp (maxSteps := 1000000) (implicitDefEqProofs := false) only [rowsOb, obB, ss, sd, evOp, evPlain, evVal, evMem, St.get, sliceOf, arrayOf, fieldsOf, normOf, norm, look, evVar, evFieldAddr, nameOf, St.alloc, St.drop, killOb, part, splice, depth, resultsV, ↓reduceIte, Nat.reduceBEq, Nat.reduceAdd, Nat.reduceSub, Nat.reduceMul, Nat.reduceEqDiff, Nat.reduceLeDiff, Nat.reduceLT, effOf, effMem, effVar, effLit, effMake, effApp, lend, evLit, evNil, freeze, evField, evIndexT, orNil, evSlice, placeOf, evMap, mapOf, keyOk, evFrame, closed, fixed, sameEs, wit, Option.isSome_some, St.with, wantedD, Array.size, te, einl, inls, efr]) trivial (fun _ _ => ?_) (fun pre x post _ hp _ g1 g2 g3 g4 => ?_)
    · generalize endU (usedAt j cuts i) L = u at *
      simp (maxSteps := 1000000) (implicitDefEqProofs := false) only [rowsOb, Int.lt_irrefl, obB, List.length_map, ss, sd, evOp, evPlain, evVal, evMem, St.get, sliceOf, arrayOf, fieldsOf, normOf, norm, look, evVar, evFieldAddr, nameOf, St.alloc, St.drop, killOb, part, splice, depth, resultsV, ↓reduceIte, Nat.reduceBEq, Nat.reduceAdd, Nat.reduceSub, Nat.reduceMul, Nat.reduceEqDiff, Nat.reduceLeDiff, Nat.reduceLT, effOf, effMem, effVar, effLit, effMake, effApp, lend, evLit, evNil, freeze, evField, evIndexT, orNil, evSlice, placeOf, evMap, mapOf, keyOk, evFrame, closed, fixed, sameEs, wit, Option.isSome_some, St.with, wantedD, Array.size, te, einl, inls, efr]
      generalize hr : loopAt _ _ _ _ _ _ = r; revert r
      refine loop_nat (L + 1) (fun p _ => [(12, .own 12 0 (scanS u p).2.length), (13, .int .i64 (scanS u p).1), (14, .int .i64 (p : Nat))]) (fun p _ => [(12, spansOb (scanS u p).2)]) (fun _ (_ : Unit) => True) () (by omega) (by simp (maxSteps := 1000000) (implicitDefEqProofs := false) only [rowsOb, scanS, spansOb, List.map_nil, Int.natCast_zero, ss, sd, evOp, evPlain, evVal, evMem, St.get, sliceOf, arrayOf, fieldsOf, normOf, norm, look, evVar, evFieldAddr, nameOf, St.alloc, St.drop, killOb, part, splice, depth, resultsV, ↓reduceIte, Nat.reduceBEq, Nat.reduceAdd, Nat.reduceSub, Nat.reduceMul, Nat.reduceEqDiff, Nat.reduceLeDiff, Nat.reduceLT, effOf, effMem, effVar, effLit, effMake, effApp, lend, evLit, evNil, freeze, evField, evIndexT, orNil, evSlice, placeOf, evMap, mapOf, keyOk, evFrame, closed, fixed, sameEs, wit, Option.isSome_some, St.with, wantedD, Array.size, te, einl, inls, efr]) trivial (fun _ _ => ?_) (fun p _ _ b1 b2 b3 => ?_)
      · have t1 : ((scanS u (L + 1)).2.map encSpan).take (scanS u (L + 1)).2.length = (scanS u (L + 1)).2.map encSpan := List.take_of_length_le (by simp)
        have e2 := rowsE_snoc (R i) (scanS u (L + 1)).2
        rw [← hsn] at e2
        have hroom2 : roomy (i + 1) 24 = true := by simp [roomy]; omega
        have hbig2 : i + 1 ≤ 4294967296 := by omega
        have z3 := sized_gaps (R i)
        generalize (scanS u (L + 1)).2 = gl at *
        simp (maxSteps := 1000000) (implicitDefEqProofs := false) only [rowsOb, Int.lt_irrefl, a3, t1, e2, hroom2, hbig2, z3, hln, flags_len, spansOb, rowsOb, Nat.le_refl, if_true, List.length_map, ss, sd, evOp, evPlain, evVal, evMem, St.get, sliceOf, arrayOf, fieldsOf, normOf, norm, look, evVar, evFieldAddr, nameOf, St.alloc, St.drop, killOb, part, splice, depth, resultsV, ↓reduceIte, Nat.reduceBEq, Nat.reduceAdd, Nat.reduceSub, Nat.reduceMul, Nat.reduceEqDiff, Nat.reduceLeDiff, Nat.reduceLT, effOf, effMem, effVar, effLit, effMake, effApp, lend, evLit, evNil, freeze, evField, evIndexT, orNil, evSlice, placeOf, evMap, mapOf, keyOk, evFrame, closed, fixed, sameEs, wit, Option.isSome_some, St.with, wantedD, Array.size, te, einl, inls, efr]
        (first | exact ⟨(), trivial⟩ | refine ⟨(), ?_, trivial⟩ | skip)
      · have gu := flags_get (L := L) u (p := p) b1
        have hs := scan_step u p
        have hf := scan_from u p
        generalize scanS u (p + 1) = sn at *
        generalize scanS u p = so at *
        obtain ⟨fr, gl⟩ := so
        dsimp only at hs hf
        cases hu : u p with
        | true =>
          rw [hu] at gu
          rw [hu, if_pos rfl] at hs
          by_cases hfr : 0 ≤ fr
          · rw [if_pos hfr] at hs
            subst hs
            have hroom : roomy (gl.length + 1) 16 = true := by simp [roomy]; omega
            have hbig : gl.length + 1 ≤ 4294967296 := by omega
            have z2 := sized_spans gl
            have e1 := gaps_snoc gl fr p
            simp (maxSteps := 1000000) (implicitDefEqProofs := false) only [rowsOb, b2, b3, gu, hfr, hroom, hbig, z2, e1, flags_len, spansOb, Bool.not_true, List.length_append, List.length_singleton, Int.natCast_nonneg, Int.toNat_natCast, List.length_map, ss, sd, evOp, evPlain, evVal, evMem, St.get, sliceOf, arrayOf, fieldsOf, normOf, norm, look, evVar, evFieldAddr, nameOf, St.alloc, St.drop, killOb, part, splice, depth, resultsV, ↓reduceIte, Nat.reduceBEq, Nat.reduceAdd, Nat.reduceSub, Nat.reduceMul, Nat.reduceEqDiff, Nat.reduceLeDiff, Nat.reduceLT, effOf, effMem, effVar, effLit, effMake, effApp, lend, evLit, evNil, freeze, evField, evIndexT, orNil, evSlice, placeOf, evMap, mapOf, keyOk, evFrame, closed, fixed, sameEs, wit, Option.isSome_some, St.with, wantedD, Array.size, te, einl, inls, efr]
            (first | exact ⟨(), trivial⟩ | refine ⟨(), ?_, trivial⟩ | skip)
          · rw [if_neg hfr] at hs
            subst hs
            simp (maxSteps := 1000000) (implicitDefEqProofs := false) only [rowsOb, b2, b3, gu, hfr, flags_len, spansOb, Bool.not_true, Int.natCast_nonneg, Int.toNat_natCast, List.length_map, ss, sd, evOp, evPlain, evVal, evMem, St.get, sliceOf, arrayOf, fieldsOf, normOf, norm, look, evVar, evFieldAddr, nameOf, St.alloc, St.drop, killOb, part, splice, depth, resultsV, ↓reduceIte, Nat.reduceBEq, Nat.reduceAdd, Nat.reduceSub, Nat.reduceMul, Nat.reduceEqDiff, Nat.reduceLeDiff, Nat.reduceLT, effOf, effMem, effVar, effLit, effMake, effApp, lend, evLit, evNil, freeze, evField, evIndexT, orNil, evSlice, placeOf, evMap, mapOf, keyOk, evFrame, closed, fixed, sameEs, wit, Option.isSome_some, St.with, wantedD, Array.size, te, einl, inls, efr]
            (first | exact ⟨(), trivial⟩ | refine ⟨(), ?_, trivial⟩ | skip)
        | false =>
          rw [hu] at gu
          rw [hu, if_neg (by decide)] at hs
          by_cases hfr : fr < 0
          · rw [if_pos hfr] at hs
            subst hs
            simp (maxSteps := 1000000) (implicitDefEqProofs := false) only [rowsOb, b2, b3, gu, hfr, flags_len, spansOb, Bool.not_false, Int.natCast_nonneg, Int.toNat_natCast, List.length_map, ss, sd, evOp, evPlain, evVal, evMem, St.get, sliceOf, arrayOf, fieldsOf, normOf, norm, look, evVar, evFieldAddr, nameOf, St.alloc, St.drop, killOb, part, splice, depth, resultsV, ↓reduceIte, Nat.reduceBEq, Nat.reduceAdd, Nat.reduceSub, Nat.reduceMul, Nat.reduceEqDiff, Nat.reduceLeDiff, Nat.reduceLT, effOf, effMem, effVar, effLit, effMake, effApp, lend, evLit, evNil, freeze, evField, evIndexT, orNil, evSlice, placeOf, evMap, mapOf, keyOk, evFrame, closed, fixed, sameEs, wit, Option.isSome_some, St.with, wantedD, Array.size, te, einl, inls, efr]
            (first | exact ⟨(), trivial⟩ | refine ⟨(), ?_, trivial⟩ | skip)
          · rw [if_neg hfr] at hs
            subst hs
            simp (maxSteps := 1000000) (implicitDefEqProofs := false) only [rowsOb, b2, b3, gu, hfr, flags_len, spansOb, Bool.not_false, Int.natCast_nonneg, Int.toNat_natCast, List.length_map, ss, sd, evOp, evPlain, evVal, evMem, St.get, sliceOf, arrayOf, fieldsOf, normOf, norm, look, evVar, evFieldAddr, nameOf, St.alloc, St.drop, killOb, part, splice, depth, resultsV, ↓reduceIte, Nat.reduceBEq, Nat.reduceAdd, Nat.reduceSub, Nat.reduceMul, Nat.reduceEqDiff, Nat.reduceLeDiff, Nat.reduceLT, effOf, effMem, effVar, effLit, effMake, effApp, lend, evLit, evNil, freeze, evField, evIndexT, orNil, evSlice, placeOf, evMap, mapOf, keyOk, evFrame, closed, fixed, sameEs, wit, Option.isSome_some, St.with, wantedD, Array.size, te, einl, inls, efr]
            (first | exact ⟨(), trivial⟩ | refine ⟨(), ?_, trivial⟩ | skip)
    · have hx := (hg x (by rw [hp]; simp)).1
      have hxa := hfi x (by rw [hp]; simp)
      have hxl := hcl x (by rw [hp]; simp)
      obtain ⟨k, hk⟩ : ∃ k : Nat, x.s = k := ⟨x.s.toNat, by omega⟩
      have gs := size_get (j := j) hk (by omega)
      have hs := (hj.ss _ (List.mem_of_getElem? gs)).2
      have k107 := c107 (stripOf j x) hs
      have hsz : sizeM (stripOf j x) = (stripOf j x).b - (stripOf j x).a := rfl
      have us := fun p => used_snoc j pre x i p
      have kk : (k : Int) < j.ss.length := by omega
      generalize stripOf j x = s at *
      obtain ⟨B, hB⟩ : ∃ B : Nat, x.a = (B : Int) := ⟨x.a.toNat, by omega⟩
      obtain ⟨Z, hZ⟩ : ∃ Z : Nat, sizeM s = (Z : Int) := ⟨(sizeM s).toNat, by omega⟩
      have hZ1 : 1 ≤ Z := by omega
      rw [hZ] at k107 hxl us
      clear hsz hs hxa hZ
      obtain ⟨xs, xr, xa⟩ := x
      obtain ⟨sx, sa, sb⟩ := s
      dsimp only at hk hB
      subst hk hB
      simp only [encStrip] at k107
      dsimp only at *
      by_cases hr : xr = (i : Int)
      rotate_left
      · have q1 : (xr == (i : Int)) = false := by simpa using hr
        have z0 : (0 : Int) < (Z : Int) := by omega
        have e1 : endU (usedAt j (pre ++ [(⟨(k : Int), xr, (B : Int)⟩ : Cut)]) i) L = endU (usedAt j pre i) L := by
          funext p
          unfold endU
          rw [us p, decide_eq_false hr]
          simp
        simp (maxSteps := 1000000) (implicitDefEqProofs := false) only [rowsOb, g1, g2, g3, g4, obB, encCut, Int.natCast_nonneg, Int.toNat_natCast, List.getElem?_map, List.length_map, ss, sd, evOp, evPlain, evVal, evMem, St.get, sliceOf, arrayOf, fieldsOf, normOf, norm, look, evVar, evFieldAddr, nameOf, St.alloc, St.drop, killOb, part, splice, depth, resultsV, ↓reduceIte, Nat.reduceBEq, Nat.reduceAdd, Nat.reduceSub, Nat.reduceMul, Nat.reduceEqDiff, Nat.reduceLeDiff, Nat.reduceLT, effOf, effMem, effVar, effLit, effMake, effApp, lend, evLit, evNil, freeze, evField, evIndexT, orNil, evSlice, placeOf, evMap, mapOf, keyOk, evFrame, closed, fixed, sameEs, wit, Option.isSome_some, St.with, wantedD, Array.size, te, einl, inls, efr]
        generalize hr : loopAt _ _ _ _ _ _ = r; revert r
        refine loop_inv (ι := Unit) (fun _ => [(11, .int .i64 0)]) (fun _ => []) (fun _ => 0) () (by simp (maxSteps := 1000000) (implicitDefEqProofs := false) only [ss, sd, evOp, evPlain, evVal, evMem, St.get, sliceOf, arrayOf, fieldsOf, normOf, norm, look, evVar, evFieldAddr, nameOf, St.alloc, St.drop, killOb, part, splice, depth, resultsV, ↓reduceIte, Nat.reduceBEq, Nat.reduceAdd, Nat.reduceSub, Nat.reduceMul, Nat.reduceEqDiff, Nat.reduceLeDiff, Nat.reduceLT, effOf, effMem, effVar, effLit, effMake, effApp, lend, evLit, evNil, freeze, evField, evIndexT, orNil, evSlice, placeOf, evMap, mapOf, keyOk, evFrame, closed, fixed, sameEs, wit, Option.isSome_some, St.with, wantedD, Array.size, te, einl, inls, efr]) ?_
        intro _
        simp (maxSteps := 1000000) (implicitDefEqProofs := false) only [rowsOb, g1, g2, g3, g4, gs, kk, k107, q1, z0, e1, evRegion_st hok, encStrip, encCut, Int.natCast_nonneg, Int.toNat_natCast, List.getElem?_map, List.length_map, ss, sd, evOp, evPlain, evVal, evMem, St.get, sliceOf, arrayOf, fieldsOf, normOf, norm, look, evVar, evFieldAddr, nameOf, St.alloc, St.drop, killOb, part, splice, depth, resultsV, ↓reduceIte, Nat.reduceBEq, Nat.reduceAdd, Nat.reduceSub, Nat.reduceMul, Nat.reduceEqDiff, Nat.reduceLeDiff, Nat.reduceLT, effOf, effMem, effVar, effLit, effMake, effApp, lend, evLit, evNil, freeze, evField, evIndexT, orNil, evSlice, placeOf, evMap, mapOf, keyOk, evFrame, closed, fixed, sameEs, wit, Option.isSome_some, St.with, wantedD, Array.size, te, einl, inls, efr]
        (first | exact ⟨(), trivial⟩ | refine ⟨(), ?_, trivial⟩ | skip)
      · have q1 : (xr == (i : Int)) = true := by simpa using hr
        have hxl := hxl hr
        obtain ⟨G, hG⟩ : ∃ G : Nat → Nat → Bool, G = fun q p => endU (usedAt j pre i) L p || (decide (B ≤ p) && decide (p < B + q)) := ⟨_, rfl⟩
        have G0 : G 0 = endU (usedAt j pre i) L := by
          rw [hG]
          funext p
          have : (decide (B ≤ p) && decide (p < B + 0)) = false := by
            rw [Bool.and_eq_false_iff, decide_eq_false_iff_not, decide_eq_false_iff_not]; omega
          dsimp only
          rw [this, Bool.or_false]
        have GZ : endU (usedAt j (pre ++ [(⟨(k : Int), xr, (B : Int)⟩ : Cut)]) i) L = G Z := by
          rw [hG]
          funext p
          unfold endU
          rw [us p, decide_eq_true hr, Bool.true_and]
          have e1 : decide ((B : Int) ≤ (p : Int)) = decide (B ≤ p) := decide_eq_decide.2 (by omega)
          have e2 : decide ((p : Int) < (B : Int) + (Z : Int)) = decide (p < B + Z) := decide_eq_decide.2 (by omega)
          rw [e1, e2]
          dsimp only
          generalize usedAt j pre i p = u1
          generalize decide (B ≤ p) = u2
          generalize decide (p < B + Z) = u3
          generalize decide (p = L) = u4
          revert u1 u2 u3 u4
          decide
        have GS : ∀ q, q < Z → (flagsL L (G q)).set (B + q) (.bool true) = flagsL L (G (q + 1)) := fun q hq => by
          refine flags_set ?_ fun p hp => ?_
          · rw [hG]
            have : (decide (B ≤ B + q) && decide (B + q < B + (q + 1))) = true := by
              rw [Bool.and_eq_true, decide_eq_true_eq, decide_eq_true_eq]; omega
            dsimp only
            rw [this, Bool.or_true]
          · rw [hG]
            have : (decide (B ≤ p) && decide (p < B + (q + 1))) = (decide (B ≤ p) && decide (p < B + q)) := by
              rw [Bool.eq_iff_iff, Bool.and_eq_true, Bool.and_eq_true, decide_eq_true_eq, decide_eq_true_eq, decide_eq_true_eq]; omega
            dsimp only
            rw [this]
        have GG := fun q (hq : q < Z) => flags_get (L := L) (G q) (p := B + q) (by omega)
        rw [GZ]
        rw [← G0]
        clear hG G0 GZ us
        simp (maxSteps := 1000000) (implicitDefEqProofs := false) only [rowsOb, g1, g2, g3, g4, obB, encCut, Int.natCast_nonneg, Int.toNat_natCast, List.getElem?_map, List.length_map, ss, sd, evOp, evPlain, evVal, evMem, St.get, sliceOf, arrayOf, fieldsOf, normOf, norm, look, evVar, evFieldAddr, nameOf, St.alloc, St.drop, killOb, part, splice, depth, resultsV, ↓reduceIte, Nat.reduceBEq, Nat.reduceAdd, Nat.reduceSub, Nat.reduceMul, Nat.reduceEqDiff, Nat.reduceLeDiff, Nat.reduceLT, effOf, effMem, effVar, effLit, effMake, effApp, lend, evLit, evNil, freeze, evField, evIndexT, orNil, evSlice, placeOf, evMap, mapOf, keyOk, evFrame, closed, fixed, sameEs, wit, Option.isSome_some, St.with, wantedD, Array.size, te, einl, inls, efr]
        generalize hr : loopAt _ _ _ _ _ _ = r; revert r
        refine loop_nat Z (fun q _ => [(11, .int .i64 (q : Nat))]) (fun q _ => [(9, obB (flagsL L (G q)))]) (fun _ (_ : Unit) => True) () (by omega) (by simp (maxSteps := 1000000) (implicitDefEqProofs := false) only [rowsOb, obB, Int.natCast_zero, ss, sd, evOp, evPlain, evVal, evMem, St.get, sliceOf, arrayOf, fieldsOf, normOf, norm, look, evVar, evFieldAddr, nameOf, St.alloc, St.drop, killOb, part, splice, depth, resultsV, ↓reduceIte, Nat.reduceBEq, Nat.reduceAdd, Nat.reduceSub, Nat.reduceMul, Nat.reduceEqDiff, Nat.reduceLeDiff, Nat.reduceLT, effOf, effMem, effVar, effLit, effMake, effApp, lend, evLit, evNil, freeze, evField, evIndexT, orNil, evSlice, placeOf, evMap, mapOf, keyOk, evFrame, closed, fixed, sameEs, wit, Option.isSome_some, St.with, wantedD, Array.size, te, einl, inls, efr]) trivial (fun _ _ => ?_) (fun q _ _ b1 b2 b3 => ?_)
        · simp (maxSteps := 1000000) (implicitDefEqProofs := false) only [rowsOb, g1, g2, g3, g4, gs, kk, k107, q1, Int.lt_irrefl, obB, evRegion_st hok, encStrip, encCut, Int.natCast_nonneg, Int.toNat_natCast, List.getElem?_map, List.length_map, ss, sd, evOp, evPlain, evVal, evMem, St.get, sliceOf, arrayOf, fieldsOf, normOf, norm, look, evVar, evFieldAddr, nameOf, St.alloc, St.drop, killOb, part, splice, depth, resultsV, ↓reduceIte, Nat.reduceBEq, Nat.reduceAdd, Nat.reduceSub, Nat.reduceMul, Nat.reduceEqDiff, Nat.reduceLeDiff, Nat.reduceLT, effOf, effMem, effVar, effLit, effMake, effApp, lend, evLit, evNil, freeze, evField, evIndexT, orNil, evSlice, placeOf, evMap, mapOf, keyOk, evFrame, closed, fixed, sameEs, wit, Option.isSome_some, St.with, wantedD, Array.size, te, einl, inls, efr]
          (first | exact ⟨(), trivial⟩ | refine ⟨(), ?_, trivial⟩ | skip)
        · have w5 : IntKind.i64.wrap ((B : Int) + (q : Int)) = ((B + q : Nat) : Int) := by rw [wrap_in (by omega)]; omega
          have u5 : ((B + q : Nat) : Int) < ((L + 1 : Nat) : Int) := by omega
          have g5 := GG q b1
          have g6 := GS q b1
          simp (maxSteps := 1000000) (implicitDefEqProofs := false) only [rowsOb, g1, g2, g3, g4, g5, g6, gs, kk, k107, q1, b2, b3, w5, u5, flags_len, obB, evRegion_st hok, encStrip, encCut, Int.natCast_nonneg, Int.toNat_natCast, List.getElem?_map, List.length_map, ss, sd, evOp, evPlain, evVal, evMem, St.get, sliceOf, arrayOf, fieldsOf, normOf, norm, look, evVar, evFieldAddr, nameOf, St.alloc, St.drop, killOb, part, splice, depth, resultsV, ↓reduceIte, Nat.reduceBEq, Nat.reduceAdd, Nat.reduceSub, Nat.reduceMul, Nat.reduceEqDiff, Nat.reduceLeDiff, Nat.reduceLT, effOf, effMem, effVar, effLit, effMake, effApp, lend, evLit, evNil, freeze, evField, evIndexT, orNil, evSlice, placeOf, evMap, mapOf, keyOk, evFrame, closed, fixed, sameEs, wit, Option.isSome_some, St.with, wantedD, Array.size, te, einl, inls, efr]
          (first | exact ⟨(), trivial⟩ | refine ⟨(), ?_, trivial⟩ | skip)
end Go.AM.D
