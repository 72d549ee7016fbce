/-
The least number of rolls of a shade: the document's shade.
-/
import Derived.Test.YtejjeckiplihbaaDShadeP
set_option linter.unusedSimpArgs false
set_option maxRecDepth 20000

namespace Go.AM.D
open Go Go.AM Go.Proofs

set_option maxRecDepth 100000 in
theorem and_facts : ((List.range 64).all fun s => (List.range 64).all fun p => decide (bitsI .and .i64 (p : Int) (s : Int) = ((p &&& s : Nat) : Int))) = true := by decide +kernel
theorem and_nat {s p : Nat} (hs : s < 64) (hp : p < 64) : bitsI .and .i64 (p : Int) (s : Int) = ((p &&& s : Nat) : Int) :=
  of_decide_eq_true (List.all_eq_true.1 (List.all_eq_true.1 and_facts s (List.mem_range.2 hs)) p (List.mem_range.2 hp))
def rollsT (j : Job) (t : Int) (m : Nat) : List Nat := (List.range m).filter fun k => decide ((rollAt j k).sh = t)
def shTab (j : Job) (t : Int) : Nat → Nat → Int
  | 0 => fun q => if q = 0 then 0 else -1
  | m + 1 => if (rollAt j m).sh = t then fun q => minTo (endR j (rollAt j m)) (shTab j t m) q q else shTab j t m
def shadeM (j : Job) (t : Int) : Int := shTab j t j.rs.length (2 ^ j.ss.length - 1)
theorem rollsT_succ (j : Job) (t : Int) (m : Nat) : rollsT j t (m + 1) = if (rollAt j m).sh = t then rollsT j t m ++ [m] else rollsT j t m := by
  unfold rollsT
  rw [List.range_succ, List.filter_append]
  by_cases h : (rollAt j m).sh = t
  · rw [if_pos h]
    simp [h]
  · rw [if_neg h]
    simp [h]
theorem rollsT_len (j : Job) (t : Int) (m : Nat) : (rollsT j t m).length ≤ m := by
  unfold rollsT
  have := List.length_filter_le (fun k => decide ((rollAt j k).sh = t)) (List.range m)
  rw [List.length_range] at this
  exact this
theorem shTab_least {j : Job} (hj : Right j) (hr : ∀ r ∈ j.rs, rollOk r j.rep = true) (hs : ∀ s ∈ j.ss, stripOk s = true) (t : Int) : ∀ m, m ≤ j.rs.length → ∀ q, q < 2 ^ j.ss.length → Least j (rollsT j t m) q (shTab j t m q)
  | 0, _, q, _ => least_nil q
  | m + 1, hm, q, hq => by
    have hN2 : 2 ^ j.ss.length ≤ 64 := Nat.pow_le_pow_right (n := 2) (by omega) hj.nss
    have ih := shTab_least hj hr hs t m (by omega)
    have g : j.rs[m]? = some (rollAt j m) := by
      unfold rollAt
      rw [List.getD_eq_getElem?_getD, List.getElem?_eq_getElem (show m < j.rs.length by omega)]
      rfl
    have hro := hr _ (List.mem_of_getElem? g)
    have b1 := rollOk_iff.1 hro
    rw [rollsT_succ]
    unfold shTab
    split
    · exact least_step hN2 (ent_in hj hro hs) (by omega) ih hq
    · exact ih q hq
theorem least_le {j : Job} {ks : List Nat} {q : Nat} {v : Int} (h : Least j ks q v) : v ≤ ks.length := by
  by_cases hv : 0 ≤ v
  · obtain ⟨S, h1, h2, _⟩ := h.some hv
    have := h1.length_le
    omega
  · omega

def desc (new old : Nat → Int) (s : Nat) : Nat → Int := fun x => if s < x then new x else old x
theorem desc_top (new old : Nat → Int) {s q : Nat} (h : q ≤ s + 1) : arrL (desc new old s) q = arrL old q := arr_congr fun x hx => if_neg (by omega)
theorem desc_low (fit old : Nat → Int) (q : Nat) : arrL (desc (fun x => minTo fit old x x) old 0) q = arrL (fun x => minTo fit old x x) q := arr_congr fun x _ => by
  unfold desc
  by_cases e : 0 < x
  · rw [if_pos e]
  · obtain rfl : x = 0 := by omega
    rfl
theorem desc_start (new old : Nat → Int) (s q : Nat) : arrL (updF (desc new old s) s (old s)) q = arrL (desc new old s) q := arr_congr fun x _ => by
  unfold updF desc
  split
  · rename_i e
    subst e
    rw [if_neg (by omega)]
  · rfl
theorem desc_next (new old : Nat → Int) {s : Nat} (h : 1 ≤ s) (q : Nat) : arrL (updF (desc new old s) s (new s)) q = arrL (desc new old (s - 1)) q := arr_congr fun x _ => by
  unfold updF desc
  split
  · rename_i e
    subst e
    rw [if_pos (by omega)]
  · rename_i e
    by_cases g : s < x
    · rw [if_pos g, if_pos (by omega)]
    · rw [if_neg g, if_neg (by omega)]
theorem desc_get (new old : Nat → Int) {s x : Nat} (v : Int) (h : x < s) : updF (desc new old s) s v x = old x := by
  unfold updF desc
  rw [if_neg (by omega), if_neg (by omega)]

set_option maxRecDepth 20000 in
set_option maxHeartbeats 16000000 in
theorem c94 (j : Job) (t : Int) (hj : Right j) (hr : ∀ r ∈ j.rs, rollOk r j.rep = true) (hs : ∀ s ∈ j.ss, stripOk s = true) : (orcω E X0).call 94 [encJob j, .int .i64 t] = some (.int .i64 (shadeM j t)) := by
  refine call_of rfl fn94 rfl ?_
  have h6 := hj.nss
  have h5 := hj.nrs
  have shl := shl_in h6
  have hN1 : 1 ≤ 2 ^ j.ss.length := Nat.one_le_two_pow
  have hN2 : 2 ^ j.ss.length ≤ 64 := Nat.pow_le_pow_right (n := 2) (by omega) h6
  have hle := shTab_least hj hr hs t
  have k1 := fun k r h1 h2 => c127 j k r hj h1 hs h2
  have hin : ∀ r, rollOk r j.rep = true → ∀ q, -1 ≤ endR j r q := fun r h q => by
    have := (ent_in hj h hs q).lo
    unfold endR negI
    split <;> omega
  unfold shadeM
  generalize hN : 2 ^ j.ss.length = N at shl hN1 hN2 hle k1 ⊢
  have u0 : IntKind.u64.wrap (j.ss.length : Int) = j.ss.length := IntWalk.u64_in _ (by omega)
  have w0 : IntKind.i64.wrap ((N : Int) - 1) = ((N - 1 : Nat) : Int) := by rw [wrap_in (by omega)]; omega
  have e0 : arrL (shTab j t 0) 1 = [V.int .i64 0] := rfl
  unfold encJob at *
  simp (maxSteps := 1000000) (implicitDefEqProofs := false) only [Try.ntmps94, Try.results94, efc94, fc94, u0, shl, w0, Int.natCast_nonneg, Int.toNat_natCast, List.length_map, ss, sd, evOp, evPlain, evVal, evMem, St.get, sliceOf, arrayOf, fieldsOf, normOf, norm, look, evVar, evFieldAddr, nameOf, St.alloc, St.drop, killOb, part, splice, depth, resultsV, ↓reduceIte, Nat.reduceBEq, Nat.reduceAdd, Nat.reduceSub, Nat.reduceMul, Nat.reduceEqDiff, Nat.reduceLeDiff, Nat.reduceLT, effOf, effMem, effVar, effLit, effMake, effApp, lend, evLit, evNil, freeze, evField, evIndexT, orNil, evSlice, placeOf, evMap, mapOf, keyOk, evFrame, closed, fixed, sameEs, wit, Option.isSome_some, St.with, wantedD, Array.size, te, einl, inls, efr]
  generalize hr : loopAt _ _ _ _ _ _ = r; revert r
  refine loop_inv (ι := { q : Nat // 1 ≤ q ∧ q ≤ N }) (fun q => [(6, .own 6 0 q.1), (7, .int .i64 (q.1 : Nat))]) (fun q => [(6, arrOb (shTab j t 0) q.1)]) (fun q => N - q.1) ⟨1, by omega, hN1⟩ (by simp (maxSteps := 1000000) (implicitDefEqProofs := false) only [arrOb, e0, Int.natCast_one, ss, sd, evOp, evPlain, evVal, evMem, St.get, sliceOf, arrayOf, fieldsOf, normOf, norm, look, evVar, evFieldAddr, nameOf, St.alloc, St.drop, killOb, part, splice, depth, resultsV, ↓reduceIte, Nat.reduceBEq, Nat.reduceAdd, Nat.reduceSub, Nat.reduceMul, Nat.reduceEqDiff, Nat.reduceLeDiff, Nat.reduceLT, effOf, effMem, effVar, effLit, effMake, effApp, lend, evLit, evNil, freeze, evField, evIndexT, orNil, evSlice, placeOf, evMap, mapOf, keyOk, evFrame, closed, fixed, sameEs, wit, Option.isSome_some, St.with, wantedD, Array.size, te, einl, inls, efr]) ?_
  rintro ⟨q, q1, q2⟩
  dsimp only
  by_cases hq : q = N
  rotate_left
  · have qNi : (q : Int) ≤ ((N - 1 : Nat) : Int) := by omega
    have hroom : roomy (q + 1) 8 = true := by simp [roomy]; omega
    have hbig : q + 1 ≤ 4294967296 := by omega
    have z2 := sized_arr (shTab j t 0) q
    have e2 := arr_snoc (shTab j t 0) q
    have e3 : shTab j t 0 q = -1 := if_neg (by omega)
    rw [e3] at e2
    have w1 : IntKind.i64.wrap ((q : Int) + 1) = ((q + 1 : Nat) : Int) := by rw [wrap_in (by omega)]; omega
    simp (maxSteps := 1000000) (implicitDefEqProofs := false) only [qNi, arrOb, hroom, hbig, z2, e2, arr_len, w1, ss, sd, evOp, evPlain, evVal, evMem, St.get, sliceOf, arrayOf, fieldsOf, normOf, norm, look, evVar, evFieldAddr, nameOf, St.alloc, St.drop, killOb, part, splice, depth, resultsV, ↓reduceIte, Nat.reduceBEq, Nat.reduceAdd, Nat.reduceSub, Nat.reduceMul, Nat.reduceEqDiff, Nat.reduceLeDiff, Nat.reduceLT, effOf, effMem, effVar, effLit, effMake, effApp, lend, evLit, evNil, freeze, evField, evIndexT, orNil, evSlice, placeOf, evMap, mapOf, keyOk, evFrame, closed, fixed, sameEs, wit, Option.isSome_some, St.with, wantedD, Array.size, te, einl, inls, efr]
    exact ⟨⟨q + 1, by omega, by omega⟩, by first | rfl | simp, by dsimp only; omega⟩
  · subst hq
    have qn : ¬ (q : Int) ≤ ((q - 1 : Nat) : Int) := by omega
    simp (maxSteps := 1000000) (implicitDefEqProofs := false) only [qn, arrOb, ss, sd, evOp, evPlain, evVal, evMem, St.get, sliceOf, arrayOf, fieldsOf, normOf, norm, look, evVar, evFieldAddr, nameOf, St.alloc, St.drop, killOb, part, splice, depth, resultsV, ↓reduceIte, Nat.reduceBEq, Nat.reduceAdd, Nat.reduceSub, Nat.reduceMul, Nat.reduceEqDiff, Nat.reduceLeDiff, Nat.reduceLT, effOf, effMem, effVar, effLit, effMake, effApp, lend, evLit, evNil, freeze, evField, evIndexT, orNil, evSlice, placeOf, evMap, mapOf, keyOk, evFrame, closed, fixed, sameEs, wit, Option.isSome_some, St.with, wantedD, Array.size, te, einl, inls, efr]
    generalize hr : loopAt _ _ _ _ _ _ = r; revert r
    refine loop_list j.rs (fun pre _ => [(6, .own 6 0 q), (8, .int .i64 pre.length)]) (fun pre _ => [(6, arrOb (shTab j t pre.length) q)]) (fun _ (_ : Unit) => True) () (by omega) (by simp (maxSteps := 1000000) (implicitDefEqProofs := false) only [arrOb, ss, sd, evOp, evPlain, evVal, evMem, St.get, sliceOf, arrayOf, fieldsOf, normOf, norm, look, evVar, evFieldAddr, nameOf, St.alloc, St.drop, killOb, part, splice, depth, resultsV, ↓reduceIte, Nat.reduceBEq, Nat.reduceAdd, Nat.reduceSub, Nat.reduceMul, Nat.reduceEqDiff, Nat.reduceLeDiff, Nat.reduceLT, effOf, effMem, effVar, effLit, effMake, effApp, lend, evLit, evNil, freeze, evField, evIndexT, orNil, evSlice, placeOf, evMap, mapOf, keyOk, evFrame, closed, fixed, sameEs, wit, Option.isSome_some, St.with, wantedD, Array.size, te, einl, inls, efr]) trivial (fun _ _ => ?_) (fun pre r post _ hp _ g1 g2 g3 g4 => ?_)
    · have qi : ((q - 1 : Nat) : Int) < q := by omega
      have ql : q - 1 < q := by omega
      simp (maxSteps := 1000000) (implicitDefEqProofs := false) only [Int.lt_irrefl, arrOb, arr_get, arr_len, qi, ql, Int.natCast_nonneg, Int.toNat_natCast, List.length_map, Try.ntmps94, Try.results94, efc94, fc94, ss, sd, evOp, evPlain, evVal, evMem, St.get, sliceOf, arrayOf, fieldsOf, normOf, norm, look, evVar, evFieldAddr, nameOf, St.alloc, St.drop, killOb, part, splice, depth, resultsV, ↓reduceIte, Nat.reduceBEq, Nat.reduceAdd, Nat.reduceSub, Nat.reduceMul, Nat.reduceEqDiff, Nat.reduceLeDiff, Nat.reduceLT, effOf, effMem, effVar, effLit, effMake, effApp, lend, evLit, evNil, freeze, evField, evIndexT, orNil, evSlice, placeOf, evMap, mapOf, keyOk, evFrame, closed, fixed, sameEs, wit, Option.isSome_some, St.with, wantedD, Array.size, te, einl, inls, efr]
    · have hlt : pre.length < j.rs.length := g2
      have hrr : rollAt j pre.length = r := by unfold rollAt; exact getD_of g3
      have hro := hr r (List.mem_of_getElem? g3)
      have hst : shTab j t (pre ++ [r]).length = if r.sh = t then fun q => minTo (endR j r) (shTab j t pre.length) q q else shTab j t pre.length := by
        rw [show (pre ++ [r]).length = pre.length + 1 by simp]
        show (if (rollAt j pre.length).sh = t then _ else _) = _
        rw [hrr]
      by_cases hsh : r.sh = t
      rotate_left
      · have q1' : (r.sh != t) = true := by simpa using hsh
        rw [if_neg hsh] at hst
        rw [hst]
        simp (maxSteps := 1000000) (implicitDefEqProofs := false) only [g1, g2, g3, g4, q1', arrOb, encRoll, Int.natCast_nonneg, Int.toNat_natCast, List.getElem?_map, List.length_map, ss, sd, evOp, evPlain, evVal, evMem, St.get, sliceOf, arrayOf, fieldsOf, normOf, norm, look, evVar, evFieldAddr, nameOf, St.alloc, St.drop, killOb, part, splice, depth, resultsV, ↓reduceIte, Nat.reduceBEq, Nat.reduceAdd, Nat.reduceSub, Nat.reduceMul, Nat.reduceEqDiff, Nat.reduceLeDiff, Nat.reduceLT, effOf, effMem, effVar, effLit, effMake, effApp, lend, evLit, evNil, freeze, evField, evIndexT, orNil, evSlice, placeOf, evMap, mapOf, keyOk, evFrame, closed, fixed, sameEs, wit, Option.isSome_some, St.with, wantedD, Array.size, te, einl, inls, efr]
        (first | exact ⟨(), trivial⟩ | refine ⟨(), ?_, trivial⟩ | skip)
      · have q1' : (r.sh != t) = false := by simpa using hsh
        rw [if_pos hsh] at hst
        rw [hst]
        have k2 := k1 pre.length r hro g3
        have hold := hle pre.length (by omega)
        have hb : ∀ x, x < q → -1 ≤ shTab j t pre.length x ∧ shTab j t pre.length x ≤ 5 := fun x hx => by
          have h1 := hold x hx
          have h2 := least_le h1
          have h3 := rollsT_len j t pre.length
          exact ⟨h1.low, by omega⟩
        have hfit := hin r hro
        generalize endR j r = fit at *
        generalize shTab j t pre.length = old at *
        clear hold hle k1 hin
        simp (maxSteps := 1000000) (implicitDefEqProofs := false) only [g1, g2, g3, g4, q1', k2, arrOb, encRoll, Int.natCast_nonneg, Int.toNat_natCast, List.getElem?_map, List.length_map, ss, sd, evOp, evPlain, evVal, evMem, St.get, sliceOf, arrayOf, fieldsOf, normOf, norm, look, evVar, evFieldAddr, nameOf, St.alloc, St.drop, killOb, part, splice, depth, resultsV, ↓reduceIte, Nat.reduceBEq, Nat.reduceAdd, Nat.reduceSub, Nat.reduceMul, Nat.reduceEqDiff, Nat.reduceLeDiff, Nat.reduceLT, effOf, effMem, effVar, effLit, effMake, effApp, lend, evLit, evNil, freeze, evField, evIndexT, orNil, evSlice, placeOf, evMap, mapOf, keyOk, evFrame, closed, fixed, sameEs, wit, Option.isSome_some, St.with, wantedD, Array.size, te, einl, inls, efr]
        have q64 : q ≤ 64 := hN2
        have qpos : 1 ≤ q := q1
        clear shl
        generalize hr : loopAt _ _ _ _ _ _ = r; revert r
        refine loop_inv (ι := { s : Nat // s < q }) (fun s => [(10, .int .i64 (s.1 : Nat))]) (fun s => [(6, arrOb (desc (fun x => minTo fit old x x) old s.1) q)]) (fun s => s.1) ⟨q - 1, by omega⟩ (by
          have z := desc_top (fun x => minTo fit old x x) old (s := q - 1) (q := q) (by omega)
          simp (maxSteps := 1000000) (implicitDefEqProofs := false) only [arrOb, z, ss, sd, evOp, evPlain, evVal, evMem, St.get, sliceOf, arrayOf, fieldsOf, normOf, norm, look, evVar, evFieldAddr, nameOf, St.alloc, St.drop, killOb, part, splice, depth, resultsV, ↓reduceIte, Nat.reduceBEq, Nat.reduceAdd, Nat.reduceSub, Nat.reduceMul, Nat.reduceEqDiff, Nat.reduceLeDiff, Nat.reduceLT, effOf, effMem, effVar, effLit, effMake, effApp, lend, evLit, evNil, freeze, evField, evIndexT, orNil, evSlice, placeOf, evMap, mapOf, keyOk, evFrame, closed, fixed, sameEs, wit, Option.isSome_some, St.with, wantedD, Array.size, te, einl, inls, efr]) ?_
        rintro ⟨s, sq⟩
        dsimp only
        by_cases s0 : s = 0
        · subst s0
          have z := desc_low fit old q
          simp (maxSteps := 1000000) (implicitDefEqProofs := false) only [Int.natCast_zero, Int.lt_irrefl, arrOb, z, g4, ss, sd, evOp, evPlain, evVal, evMem, St.get, sliceOf, arrayOf, fieldsOf, normOf, norm, look, evVar, evFieldAddr, nameOf, St.alloc, St.drop, killOb, part, splice, depth, resultsV, ↓reduceIte, Nat.reduceBEq, Nat.reduceAdd, Nat.reduceSub, Nat.reduceMul, Nat.reduceEqDiff, Nat.reduceLeDiff, Nat.reduceLT, effOf, effMem, effVar, effLit, effMake, effApp, lend, evLit, evNil, freeze, evField, evIndexT, orNil, evSlice, placeOf, evMap, mapOf, keyOk, evFrame, closed, fixed, sameEs, wit, Option.isSome_some, St.with, wantedD, Array.size, te, einl, inls, efr]
          (first | exact ⟨(), trivial⟩ | refine ⟨(), ?_, trivial⟩ | skip)
        have sp : (0 : Int) < s := by omega
        have w4 : IntKind.i64.wrap ((s : Int) - 1) = ((s - 1 : Nat) : Int) := by rw [wrap_in (by omega)]; omega
        simp (maxSteps := 1000000) (implicitDefEqProofs := false) only [sp, arrOb, ss, sd, evOp, evPlain, evVal, evMem, St.get, sliceOf, arrayOf, fieldsOf, normOf, norm, look, evVar, evFieldAddr, nameOf, St.alloc, St.drop, killOb, part, splice, depth, resultsV, ↓reduceIte, Nat.reduceBEq, Nat.reduceAdd, Nat.reduceSub, Nat.reduceMul, Nat.reduceEqDiff, Nat.reduceLeDiff, Nat.reduceLT, effOf, effMem, effVar, effLit, effMake, effApp, lend, evLit, evNil, freeze, evField, evIndexT, orNil, evSlice, placeOf, evMap, mapOf, keyOk, evFrame, closed, fixed, sameEs, wit, Option.isSome_some, St.with, wantedD, Array.size, te, einl, inls, efr]
        generalize hr : loopAt _ _ _ _ _ _ = r; revert r
        refine loop_inv (ι := { m : Nat // m ≤ s }) (fun m => [(11, .int .i64 ((m.1 + 1 : Nat) : Int))]) (fun m => [(6, arrOb (updF (desc (fun x => minTo fit old x x) old s) s (minTo fit old s m.1)) q)]) (fun m => s - m.1) ⟨0, by omega⟩ (by
          have z := desc_start (fun x => minTo fit old x x) old s q
          simp (maxSteps := 1000000) (implicitDefEqProofs := false) only [arrOb, minTo, z, Nat.zero_add, Int.natCast_one, ss, sd, evOp, evPlain, evVal, evMem, St.get, sliceOf, arrayOf, fieldsOf, normOf, norm, look, evVar, evFieldAddr, nameOf, St.alloc, St.drop, killOb, part, splice, depth, resultsV, ↓reduceIte, Nat.reduceBEq, Nat.reduceAdd, Nat.reduceSub, Nat.reduceMul, Nat.reduceEqDiff, Nat.reduceLeDiff, Nat.reduceLT, effOf, effMem, effVar, effLit, effMake, effApp, lend, evLit, evNil, freeze, evField, evIndexT, orNil, evSlice, placeOf, evMap, mapOf, keyOk, evFrame, closed, fixed, sameEs, wit, Option.isSome_some, St.with, wantedD, Array.size, te, einl, inls, efr]) ?_
        rintro ⟨m, ms⟩
        dsimp only
        by_cases hm : m = s
        · subst hm
          have z := desc_next (fun x => minTo fit old x x) old (s := m) (by omega) q
          have n1 : ¬ ((m + 1 : Nat) : Int) ≤ m := by omega
          simp (maxSteps := 1000000) (implicitDefEqProofs := false) only [n1, arrOb, z, w4, ss, sd, evOp, evPlain, evVal, evMem, St.get, sliceOf, arrayOf, fieldsOf, normOf, norm, look, evVar, evFieldAddr, nameOf, St.alloc, St.drop, killOb, part, splice, depth, resultsV, ↓reduceIte, Nat.reduceBEq, Nat.reduceAdd, Nat.reduceSub, Nat.reduceMul, Nat.reduceEqDiff, Nat.reduceLeDiff, Nat.reduceLT, effOf, effMem, effVar, effLit, effMake, effApp, lend, evLit, evNil, freeze, evField, evIndexT, orNil, evSlice, placeOf, evMap, mapOf, keyOk, evFrame, closed, fixed, sameEs, wit, Option.isSome_some, St.with, wantedD, Array.size, te, einl, inls, efr]
          exact ⟨⟨m - 1, by omega⟩, by first | rfl | simp, by dsimp only; omega⟩
        have n1 : ((m + 1 : Nat) : Int) ≤ s := by omega
        have w5 : IntKind.i64.wrap (((m + 1 : Nat) : Int) + 1) = ((m + 1 + 1 : Nat) : Int) := by rw [wrap_in (by omega)]; omega
        have w6 : IntKind.i64.wrap ((s : Int) - ((m + 1 : Nat) : Int)) = ((s - (m + 1) : Nat) : Int) := by rw [wrap_in (by omega)]; omega
        have an := and_nat (s := s) (p := m + 1) (by omega) (by omega)
        have mst : minTo fit old s (m + 1) = if goodP fit old s (m + 1) ∧ (minTo fit old s m < 0 ∨ old (s - (m + 1)) + 1 < minTo fit old s m) then old (s - (m + 1)) + 1 else minTo fit old s m := rfl
        have ob := hb (s - (m + 1)) (by omega)
        have gg := desc_get (fun x => minTo fit old x x) old (s := s) (x := s - (m + 1)) (minTo fit old s m) (by omega)
        have ga := updF_at (desc (fun x => minTo fit old x x) old s) s (minTo fit old s m)
        have l1 : s - (m + 1) < q := by omega
        have l2 : ((s - (m + 1) : Nat) : Int) < q := by omega
        have l3 : m + 1 < q := by omega
        have l4 : ((m + 1 : Nat) : Int) < q := by omega
        have l5 : (s : Int) < q := by omega
        generalize hv : minTo fit old s m = v at *
        generalize hv' : minTo fit old s (m + 1) = v' at *
        generalize hnw : (fun x => minTo fit old x x) = nw at *
        generalize ho : old (s - (m + 1)) = o at *
        have fin : ∀ P : Nat → Prop, True := fun _ => trivial
        cases hsub : subB (m + 1) s with
        | false =>
          have q3 : ((((m + 1) &&& s : Nat) : Int) != ((m + 1 : Nat) : Int)) = true := by
            unfold subB at hsub
            have := beq_eq_false_iff_ne.1 hsub
            simpa using (show ¬ (((m + 1) &&& s : Nat) : Int) = ((m + 1 : Nat) : Int) by omega)
          rw [if_neg (fun h => by have := h.1.1; rw [hsub] at this; cases this)] at mst
          subst mst
          simp (maxSteps := 1000000) (implicitDefEqProofs := false) only [n1, w5, an, q3, arrOb, ss, sd, evOp, evPlain, evVal, evMem, St.get, sliceOf, arrayOf, fieldsOf, normOf, norm, look, evVar, evFieldAddr, nameOf, St.alloc, St.drop, killOb, part, splice, depth, resultsV, ↓reduceIte, Nat.reduceBEq, Nat.reduceAdd, Nat.reduceSub, Nat.reduceMul, Nat.reduceEqDiff, Nat.reduceLeDiff, Nat.reduceLT, effOf, effMem, effVar, effLit, effMake, effApp, lend, evLit, evNil, freeze, evField, evIndexT, orNil, evSlice, placeOf, evMap, mapOf, keyOk, evFrame, closed, fixed, sameEs, wit, Option.isSome_some, St.with, wantedD, Array.size, te, einl, inls, efr]
          exact ⟨⟨m + 1, by omega⟩, by first | rfl | simp [hv'], by dsimp only; omega⟩
        | true =>
          have q3 : ((((m + 1) &&& s : Nat) : Int) != ((m + 1 : Nat) : Int)) = false := by
            unfold subB at hsub
            have := beq_iff_eq.1 hsub
            simpa using (show (((m + 1) &&& s : Nat) : Int) = ((m + 1 : Nat) : Int) by omega)
          by_cases f0 : fit (m + 1) < 0
          · rw [if_neg (fun h => by have := h.1.2.1; omega)] at mst
            subst mst
            simp (maxSteps := 1000000) (implicitDefEqProofs := false) only [n1, w5, an, q3, f0, l3, l4, arr_get, arr_len, arrOb, Int.natCast_nonneg, Int.toNat_natCast, ss, sd, evOp, evPlain, evVal, evMem, St.get, sliceOf, arrayOf, fieldsOf, normOf, norm, look, evVar, evFieldAddr, nameOf, St.alloc, St.drop, killOb, part, splice, depth, resultsV, ↓reduceIte, Nat.reduceBEq, Nat.reduceAdd, Nat.reduceSub, Nat.reduceMul, Nat.reduceEqDiff, Nat.reduceLeDiff, Nat.reduceLT, effOf, effMem, effVar, effLit, effMake, effApp, lend, evLit, evNil, freeze, evField, evIndexT, orNil, evSlice, placeOf, evMap, mapOf, keyOk, evFrame, closed, fixed, sameEs, wit, Option.isSome_some, St.with, wantedD, Array.size, te, einl, inls, efr]
            exact ⟨⟨m + 1, by omega⟩, by first | rfl | simp [hv'], by dsimp only; omega⟩
          by_cases o0 : o < 0
          · rw [if_neg (fun h => by have := h.1.2.2; rw [ho] at this; omega)] at mst
            subst mst
            simp (maxSteps := 1000000) (implicitDefEqProofs := false) only [n1, w5, w6, an, q3, f0, gg, o0, l1, l2, l3, l4, arr_get, arr_len, arrOb, Int.natCast_nonneg, Int.toNat_natCast, ss, sd, evOp, evPlain, evVal, evMem, St.get, sliceOf, arrayOf, fieldsOf, normOf, norm, look, evVar, evFieldAddr, nameOf, St.alloc, St.drop, killOb, part, splice, depth, resultsV, ↓reduceIte, Nat.reduceBEq, Nat.reduceAdd, Nat.reduceSub, Nat.reduceMul, Nat.reduceEqDiff, Nat.reduceLeDiff, Nat.reduceLT, effOf, effMem, effVar, effLit, effMake, effApp, lend, evLit, evNil, freeze, evField, evIndexT, orNil, evSlice, placeOf, evMap, mapOf, keyOk, evFrame, closed, fixed, sameEs, wit, Option.isSome_some, St.with, wantedD, Array.size, te, einl, inls, efr]
            exact ⟨⟨m + 1, by omega⟩, by first | rfl | simp [hv'], by dsimp only; omega⟩
          have hgood : goodP fit old s (m + 1) := ⟨hsub, by omega, by rw [ho]; omega⟩
          have w7 : IntKind.i64.wrap (o + 1) = o + 1 := wrap_in (by omega)
          by_cases v0 : v < 0
          · rw [if_pos ⟨hgood, .inl v0⟩] at mst
            subst mst
            simp (maxSteps := 1000000) (implicitDefEqProofs := false) only [n1, w5, w6, w7, an, q3, f0, gg, ga, o0, v0, l1, l2, l3, l4, l5, sq, arr_get, arr_set, arr_len, updF_updF, arrOb, Int.natCast_nonneg, Int.toNat_natCast, ss, sd, evOp, evPlain, evVal, evMem, St.get, sliceOf, arrayOf, fieldsOf, normOf, norm, look, evVar, evFieldAddr, nameOf, St.alloc, St.drop, killOb, part, splice, depth, resultsV, ↓reduceIte, Nat.reduceBEq, Nat.reduceAdd, Nat.reduceSub, Nat.reduceMul, Nat.reduceEqDiff, Nat.reduceLeDiff, Nat.reduceLT, effOf, effMem, effVar, effLit, effMake, effApp, lend, evLit, evNil, freeze, evField, evIndexT, orNil, evSlice, placeOf, evMap, mapOf, keyOk, evFrame, closed, fixed, sameEs, wit, Option.isSome_some, St.with, wantedD, Array.size, te, einl, inls, efr]
            exact ⟨⟨m + 1, by omega⟩, by first | rfl | simp [hv'], by dsimp only; omega⟩
          by_cases v1 : o + 1 < v
          · rw [if_pos ⟨hgood, .inr v1⟩] at mst
            subst mst
            simp (maxSteps := 1000000) (implicitDefEqProofs := false) only [n1, w5, w6, w7, an, q3, f0, gg, ga, o0, v0, v1, l1, l2, l3, l4, l5, sq, arr_get, arr_set, arr_len, updF_updF, arrOb, Int.natCast_nonneg, Int.toNat_natCast, ss, sd, evOp, evPlain, evVal, evMem, St.get, sliceOf, arrayOf, fieldsOf, normOf, norm, look, evVar, evFieldAddr, nameOf, St.alloc, St.drop, killOb, part, splice, depth, resultsV, ↓reduceIte, Nat.reduceBEq, Nat.reduceAdd, Nat.reduceSub, Nat.reduceMul, Nat.reduceEqDiff, Nat.reduceLeDiff, Nat.reduceLT, effOf, effMem, effVar, effLit, effMake, effApp, lend, evLit, evNil, freeze, evField, evIndexT, orNil, evSlice, placeOf, evMap, mapOf, keyOk, evFrame, closed, fixed, sameEs, wit, Option.isSome_some, St.with, wantedD, Array.size, te, einl, inls, efr]
            exact ⟨⟨m + 1, by omega⟩, by first | rfl | simp [hv'], by dsimp only; omega⟩
          · rw [if_neg (fun h => h.2.elim v0 v1)] at mst
            subst mst
            simp (maxSteps := 1000000) (implicitDefEqProofs := false) only [n1, w5, w6, w7, an, q3, f0, gg, ga, o0, v0, v1, l1, l2, l3, l4, l5, sq, arr_get, arr_len, arrOb, Int.natCast_nonneg, Int.toNat_natCast, ss, sd, evOp, evPlain, evVal, evMem, St.get, sliceOf, arrayOf, fieldsOf, normOf, norm, look, evVar, evFieldAddr, nameOf, St.alloc, St.drop, killOb, part, splice, depth, resultsV, ↓reduceIte, Nat.reduceBEq, Nat.reduceAdd, Nat.reduceSub, Nat.reduceMul, Nat.reduceEqDiff, Nat.reduceLeDiff, Nat.reduceLT, effOf, effMem, effVar, effLit, effMake, effApp, lend, evLit, evNil, freeze, evField, evIndexT, orNil, evSlice, placeOf, evMap, mapOf, keyOk, evFrame, closed, fixed, sameEs, wit, Option.isSome_some, St.with, wantedD, Array.size, te, einl, inls, efr]
            exact ⟨⟨m + 1, by omega⟩, by first | rfl | simp [hv'], by dsimp only; omega⟩
end Go.AM.D
