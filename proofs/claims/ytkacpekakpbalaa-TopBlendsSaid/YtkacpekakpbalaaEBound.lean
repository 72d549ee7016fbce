/-
The bound of prices, and which prices are a proof.
-/
import Derived.Test.YtkacpekakpbalaaEPrice
set_option linter.unusedVariables false
set_option linter.unusedSimpArgs false
set_option maxRecDepth 20000

namespace Go.AM.E
open Go Go.AM Go.Proofs

def coAt (b : Blend) (i : Nat) : Int := (b.cs.getD i cem0).co
def psAt (b : Blend) (i : Nat) : List Int := (b.cs.getD i cem0).ps
theorem coAt_some {b : Blend} {i : Nat} {c : Cem} (h : b.cs[i]? = some c) : coAt b i = c.co := by
  unfold coAt
  rw [List.getD_eq_getElem?_getD, h]
  rfl
theorem psAt_some {b : Blend} {i : Nat} {c : Cem} (h : b.cs[i]? = some c) : psAt b i = c.ps := by
  unfold psAt
  rw [List.getD_eq_getElem?_getD, h]
  rfl
/-- The gain of prices at a cement. -/
def gainAt (b : Blend) (p : Pr) (i : Nat) : Int := gainM (psAt b i) p - p.w.getD i 0
def dearB (b : Blend) (p : Pr) : Bool := (List.range b.cs.length).any fun i => decide (p.den * coAt b i < gainAt b p i)
def gainB (b : Blend) (p : Pr) : Bool := (List.range b.cs.length).any fun i => decide (0 < gainAt b p i)
theorem dear_iff {b : Blend} {p : Pr} : dearB b p = false ↔ ∀ i, i < b.cs.length → ¬ p.den * coAt b i < gainAt b p i := by
  unfold dearB
  rw [List.any_eq_false]
  simp
theorem dear_yes {b : Blend} {p : Pr} {i : Nat} (hi : i < b.cs.length) (h : p.den * coAt b i < gainAt b p i) : dearB b p = true := by
  cases hs : dearB b p with
  | true => rfl
  | false => exact absurd h (dear_iff.1 hs i hi)
theorem gainB_iff {b : Blend} {p : Pr} : gainB b p = false ↔ ∀ i, i < b.cs.length → ¬ 0 < gainAt b p i := by
  unfold gainB
  rw [List.any_eq_false]
  simp
theorem gain_yes {b : Blend} {p : Pr} {i : Nat} (hi : i < b.cs.length) (h : 0 < gainAt b p i) : gainB b p = true := by
  cases hs : gainB b p with
  | true => rfl
  | false => exact absurd h (gainB_iff.1 hs i hi)
def boundR (b : Blend) (p : Pr) : Int × Int × Int :=
  if errV b = 0 then (if rightP b p = true then (if dearB b p = true then (0, 0, 9) else makeR (valueM b p) p.den) else (0, 0, 1)) else (0, 0, 1)
def proofB (b : Blend) (p : Pr) : Bool := decide (errV b = 0) && rightP b p && !gainB b p && decide (0 < valueM b p)

theorem gain_move (y0 d : Int) (ps u v : List Int) : ∀ k : Nat, gainTo (y0 - d) ps u v k = gainTo y0 ps u v k - d
  | 0 => rfl
  | k + 1 => by
    show gainTo (y0 - d) ps u v k + _ = gainTo y0 ps u v k + _ - d
    rw [gain_move y0 d ps u v k]
    omega
theorem fine_in {b : Blend} {p : Pr} (hb : Valid b) (hp : Fine b p) {i : Nat} {c : Cem} (hc : b.cs[i]? = some c) : (∀ n ∈ c.ps, 0 ≤ n ∧ n ≤ 20) ∧ c.ps.length = b.lo.length := by
  have := cemOk_iff.1 (hb.2.2.2.2.2.2.2 c (List.mem_of_getElem? hc))
  exact ⟨this.2.2.2, this.2.2.1⟩
theorem gainAt_in {b : Blend} {p : Pr} (hb : Valid b) (hp : Fine b p) {i : Nat} (hi : i < b.cs.length) : -400000000000000 ≤ gainAt b p i ∧ gainAt b p i ≤ 100000000000000 ∧ -100000000000000 ≤ gainM (psAt b i) p ∧ gainM (psAt b i) p ≤ 100000000000000 := by
  have hc : b.cs[i]? = some b.cs[i] := List.getElem?_eq_getElem hi
  obtain ⟨f1, f2⟩ := fine_in hb hp hc
  have h3 := hb.2.2.1
  have hg := gain_in (y0 := p.y) (ps := b.cs[i].ps) (u := p.u) (v := p.v) (by have := hp.1; omega) f1 hp.2.2.2.2.1 hp.2.2.2.2.2.1 (by have := hp.2.1; omega) (by have := hp.2.2.1; omega) b.cs[i].ps.length (Nat.le_refl _)
  have g2 : p.w[i]? = some (p.w[i]'(by have := hp.2.2.2.1; omega)) := List.getElem?_eq_getElem _
  have hw := hp.2.2.2.2.2.2 _ (List.mem_of_getElem? g2)
  unfold gainAt gainM
  rw [psAt_some hc, getD_some g2]
  omega

theorem okT60 : okCode (Try.f60.body.getD .skip) = true := by decide +kernel
set_option maxRecDepth 20000 in
set_option maxHeartbeats 4000000 in
theorem c60 (b : Blend) (p : Pr) (hb : Valid b) (hp : Fine b p) (j : Nat) (hj : j < b.cs.length) : (orcω E XS).call 60 [encBlend b, encPr p, .int .i64 j] = some (.int .i64 (gainAt b p j)) := by
  refine call_of rfl fn60 rfl ?_
  have hok := okT60
  simp only [Try.f60, Option.getD_some, okCode, Bool.and_eq_true, Bool.and_true, Bool.true_and] at hok
  obtain ⟨hk1, hk2⟩ := hok
  have hc : b.cs[j]? = some b.cs[j] := List.getElem?_eq_getElem hj
  obtain ⟨f1, f2⟩ := fine_in hb hp hc
  have h3 := hb.2.2.1
  have h5 := hb.2.1
  unfold gainAt
  rw [psAt_some hc]
  generalize b.cs[j] = cj at *
  obtain ⟨hy, l1, l2, l3, hu, hv, hw⟩ := hp
  unfold gainM
  rw [← gain_move]
  obtain ⟨tot, cs, lo, hi⟩ := b
  obtain ⟨den, y, u, v, w⟩ := p
  clear hb
  obtain ⟨st, co, ps⟩ := cj
  unfold encBlend encPr
  dsimp only at *
  have g0 : w[j]? = some w[j] := List.getElem?_eq_getElem (by omega)
  have hwj := hw w[j] (List.getElem_mem _)
  rw [getD_some g0, f2]
  generalize w[j] = wj at *
  have hin := gain_in (y0 := y) (by omega) f1 hu hv (by omega) (by omega)
  have w9 : IntKind.i64.wrap (y - wj) = y - wj := wrap_in (by omega)
  have j1 : (j : Int) < w.length := by omega
  have j2 : (j : Int) < cs.length := by omega
  simp (maxSteps := 1000000) (implicitDefEqProofs := false) only [Try.ntmps60, Try.results60, efc60, fc60, j1, g0, w9, vI, evRegion_st hk1, Int.natCast_nonneg, Int.toNat_natCast, List.getElem?_map, List.length_map, ss, sd, evOp, evPlain, evVal, evMem, St.get, sliceOf, arrayOf, fieldsOf, normOf, norm, look, evVar, evFieldAddr, nameOf, St.alloc, St.drop, killOb, part, splice, depth, resultsV, ↓reduceIte, Nat.reduceBEq, Nat.reduceAdd, Nat.reduceSub, Nat.reduceMul, Nat.reduceEqDiff, Nat.reduceLeDiff, Nat.reduceLT, effOf, effMem, effVar, effLit, effMake, effApp, lend, evLit, evNil, freeze, evField, evIndexT, orNil, evSlice, placeOf, evMap, mapOf, keyOk, evFrame, closed, fixed, sameEs, wit, Option.isSome_some, St.with, wantedD, Array.size, te, einl, inls, efr]
  generalize hr : loopAt _ _ _ _ _ _ = r; revert r
  refine loop_nat lo.length (fun i _ => [(7, .int .i64 (gainTo (y - wj) ps u v i)), (8, .int .i64 (i : Nat))]) (fun _ _ => []) (fun _ (_ : Unit) => True) () (by omega) (by simp (maxSteps := 1000000) (implicitDefEqProofs := false) only [gainTo, Int.natCast_zero, ss, sd, evOp, evPlain, evVal, evMem, St.get, sliceOf, arrayOf, fieldsOf, normOf, norm, look, evVar, evFieldAddr, nameOf, St.alloc, St.drop, killOb, part, splice, depth, resultsV, ↓reduceIte, Nat.reduceBEq, Nat.reduceAdd, Nat.reduceSub, Nat.reduceMul, Nat.reduceEqDiff, Nat.reduceLeDiff, Nat.reduceLT, effOf, effMem, effVar, effLit, effMake, effApp, lend, evLit, evNil, freeze, evField, evIndexT, orNil, evSlice, placeOf, evMap, mapOf, keyOk, evFrame, closed, fixed, sameEs, wit, Option.isSome_some, St.with, wantedD, Array.size, te, einl, inls, efr]) trivial (fun _ _ => ?_) (fun i _ _ a1 a2 a3 => ?_)
  · simp (maxSteps := 1000000) (implicitDefEqProofs := false) only [Int.lt_irrefl, List.length_map, Try.ntmps60, Try.results60, efc60, fc60, ss, sd, evOp, evPlain, evVal, evMem, St.get, sliceOf, arrayOf, fieldsOf, normOf, norm, look, evVar, evFieldAddr, nameOf, St.alloc, St.drop, killOb, part, splice, depth, resultsV, ↓reduceIte, Nat.reduceBEq, Nat.reduceAdd, Nat.reduceSub, Nat.reduceMul, Nat.reduceEqDiff, Nat.reduceLeDiff, Nat.reduceLT, effOf, effMem, effVar, effLit, effMake, effApp, lend, evLit, evNil, freeze, evField, evIndexT, orNil, evSlice, placeOf, evMap, mapOf, keyOk, evFrame, closed, fixed, sameEs, wit, Option.isSome_some, St.with, wantedD, Array.size, te, einl, inls, efr]
  · have g1 : ps[i]? = some ps[i] := List.getElem?_eq_getElem (by omega)
    have g2 : u[i]? = some u[i] := List.getElem?_eq_getElem (by omega)
    have g3 : v[i]? = some v[i] := List.getElem?_eq_getElem (by omega)
    have e1 := gain_step (y0 := y - wj) g1 g2 g3
    have b1 := hu u[i] (List.getElem_mem _)
    have b2 := hv v[i] (List.getElem_mem _)
    have b3 := mul_two (b := u[i] - v[i]) (B := 1099511627776) (f1 ps[i] (List.getElem_mem _)) (by omega)
    have b4 := hin i (by omega)
    have b5 := hin (i + 1) (by omega)
    have m1 := gain_move y wj ps u v (i + 1)
    have w0 : IntKind.i64.wrap (u[i] - v[i]) = u[i] - v[i] := wrap_in (by omega)
    have w1 : IntKind.i64.wrap (ps[i] * (u[i] - v[i])) = ps[i] * (u[i] - v[i]) := wrap_in (by omega)
    have w2 : IntKind.i64.wrap (gainTo (y - wj) ps u v i + ps[i] * (u[i] - v[i])) = gainTo (y - wj) ps u v (i + 1) := by rw [← e1, wrap_in (by omega)]
    have a4 : (i : Int) < u.length := by omega
    have a5 : (i : Int) < v.length := by omega
    have a6 : (i : Int) < ps.length := by omega
    clear e1 b1 b2 b3 b4 b5 hin m1
    generalize ps[i] = c at *
    generalize u[i] = m at *
    generalize v[i] = n at *
    simp (maxSteps := 1000000) (implicitDefEqProofs := false) only [a1, a2, a3, a4, a5, a6, hc, j2, g1, g2, g3, w0, w1, w2, encCem, vI, evRegion_st hk2, Int.natCast_nonneg, Int.toNat_natCast, List.getElem?_map, List.length_map, ss, sd, evOp, evPlain, evVal, evMem, St.get, sliceOf, arrayOf, fieldsOf, normOf, norm, look, evVar, evFieldAddr, nameOf, St.alloc, St.drop, killOb, part, splice, depth, resultsV, ↓reduceIte, Nat.reduceBEq, Nat.reduceAdd, Nat.reduceSub, Nat.reduceMul, Nat.reduceEqDiff, Nat.reduceLeDiff, Nat.reduceLT, effOf, effMem, effVar, effLit, effMake, effApp, lend, evLit, evNil, freeze, evField, evIndexT, orNil, evSlice, placeOf, evMap, mapOf, keyOk, evFrame, closed, fixed, sameEs, wit, Option.isSome_some, St.with, wantedD, Array.size, te, einl, inls, efr]
    (first | exact ⟨(), trivial⟩ | refine ⟨(), ?_, trivial⟩ | skip)

theorem okT61 : okCode (Try.f61.body.getD .skip) = true := by decide +kernel
set_option maxRecDepth 20000 in
set_option maxHeartbeats 8000000 in
theorem c61 (b : Blend) (p : Pr) (hb : Valid b) (hp : Fine b p) : (orcω E XS).call 61 [encBlend b, encPr p] = some (.int .i64 (valueM b p)) := by
  refine call_of rfl fn61 rfl ?_
  have hok := okT61
  simp only [Try.f61, Option.getD_some, okCode, Bool.and_eq_true, Bool.and_true, Bool.true_and] at hok
  obtain ⟨hk1, hk2⟩ := hok
  have hv := val_in hb hp
  have hs := less_in hb hp (val_all hb hp)
  have hT := hb.1
  have hst := st_in hb
  have hlo := hb.2.2.2.2.1
  have hhi := hb.2.2.2.2.2.1
  have hn3 := hb.2.2.1
  have hlh := hb.2.2.2.1
  have hl5 := hb.2.1
  obtain ⟨hy, l1, l2, l3, hu, hw, hw'⟩ := hp
  have vs := fun k l h m n => val_step (b := b) (p := p) (k := k) (l := l) (h := h) (m := m) (n := n)
  have ls := fun k c n => less_step (b := b) (p := p) (v0 := valTo b p b.lo.length) (k := k) (c := c) (n := n)
  have h00 : valTo b p 0 = p.y * b.tot := rfl
  have h01 : lessTo b p (valTo b p b.lo.length) 0 = valTo b p b.lo.length := rfl
  unfold valueM
  generalize lessTo b p (valTo b p b.lo.length) = le at *
  generalize valTo b p = va at *
  obtain ⟨tot, cs, lo, hi⟩ := b
  obtain ⟨den, y, u, v, w⟩ := p
  clear hb
  unfold encBlend encPr
  dsimp only at *
  have w9 : IntKind.i64.wrap (y * tot) = va 0 := by rw [← h00]; have := hv 0 (by omega); exact wrap_in (by omega)
  simp (maxSteps := 1000000) (implicitDefEqProofs := false) only [Try.ntmps61, Try.results61, efc61, fc61, w9, List.length_map, ss, sd, evOp, evPlain, evVal, evMem, St.get, sliceOf, arrayOf, fieldsOf, normOf, norm, look, evVar, evFieldAddr, nameOf, St.alloc, St.drop, killOb, part, splice, depth, resultsV, ↓reduceIte, Nat.reduceBEq, Nat.reduceAdd, Nat.reduceSub, Nat.reduceMul, Nat.reduceEqDiff, Nat.reduceLeDiff, Nat.reduceLT, effOf, effMem, effVar, effLit, effMake, effApp, lend, evLit, evNil, freeze, evField, evIndexT, orNil, evSlice, placeOf, evMap, mapOf, keyOk, evFrame, closed, fixed, sameEs, wit, Option.isSome_some, St.with, wantedD, Array.size, te, einl, inls, efr]
  generalize hr : loopAt _ _ _ _ _ _ = r; revert r
  refine loop_nat lo.length (fun i _ => [(5, .int .i64 (va i)), (6, .int .i64 (i : Nat))]) (fun _ _ => []) (fun _ (_ : Unit) => True) () (by omega) (by simp (maxSteps := 1000000) (implicitDefEqProofs := false) only [Int.natCast_zero, ss, sd, evOp, evPlain, evVal, evMem, St.get, sliceOf, arrayOf, fieldsOf, normOf, norm, look, evVar, evFieldAddr, nameOf, St.alloc, St.drop, killOb, part, splice, depth, resultsV, ↓reduceIte, Nat.reduceBEq, Nat.reduceAdd, Nat.reduceSub, Nat.reduceMul, Nat.reduceEqDiff, Nat.reduceLeDiff, Nat.reduceLT, effOf, effMem, effVar, effLit, effMake, effApp, lend, evLit, evNil, freeze, evField, evIndexT, orNil, evSlice, placeOf, evMap, mapOf, keyOk, evFrame, closed, fixed, sameEs, wit, Option.isSome_some, St.with, wantedD, Array.size, te, einl, inls, efr]) trivial (fun _ _ => ?_) (fun i _ _ a1 a2 a3 => ?_)
  rotate_left
  · have g1 : lo[i]? = some lo[i] := List.getElem?_eq_getElem a1
    have g2 : hi[i]? = some hi[i] := List.getElem?_eq_getElem (by omega)
    have g3 : u[i]? = some u[i] := List.getElem?_eq_getElem (by omega)
    have g4 : v[i]? = some v[i] := List.getElem?_eq_getElem (by omega)
    have e1 := vs i _ _ _ _ g1 g2 g3 g4
    have hul := hu u[i] (List.getElem_mem _)
    have hwl := hw v[i] (List.getElem_mem _)
    have b1 := mul_in (hlo lo[i] (List.getElem_mem _)) (show 0 ≤ tot ∧ tot ≤ 1000 by omega)
    have b2 := mul_in (hhi hi[i] (List.getElem_mem _)) (show 0 ≤ tot ∧ tot ≤ 1000 by omega)
    have b3 := mul_in b1 hul
    have b4 := mul_in b2 hwl
    have e2 : tot * (lo[i] * u[i] - hi[i] * v[i]) = lo[i] * tot * u[i] - hi[i] * tot * v[i] := by
      rw [Int.mul_sub, Int.mul_comm lo[i] tot, Int.mul_comm hi[i] tot, Int.mul_assoc, Int.mul_assoc]
    have b5 := hv (i + 1) (by omega)
    have w0 : IntKind.i64.wrap (lo[i] * tot) = lo[i] * tot := wrap_in (by omega)
    have w1 : IntKind.i64.wrap (hi[i] * tot) = hi[i] * tot := wrap_in (by omega)
    have w2 : IntKind.i64.wrap (lo[i] * tot * u[i]) = lo[i] * tot * u[i] := wrap_in (by omega)
    have w3 : IntKind.i64.wrap (hi[i] * tot * v[i]) = hi[i] * tot * v[i] := wrap_in (by omega)
    have w5 : IntKind.i64.wrap (lo[i] * tot * u[i] - hi[i] * tot * v[i]) = lo[i] * tot * u[i] - hi[i] * tot * v[i] := wrap_in (by omega)
    have w4 : IntKind.i64.wrap (va i + (lo[i] * tot * u[i] - hi[i] * tot * v[i])) = va (i + 1) := by rw [← e2, ← e1, wrap_in (by omega)]
    have a4 : (i : Int) < u.length := by omega
    have a5 : (i : Int) < v.length := by omega
    have a6 : (i : Int) < hi.length := by omega
    clear e1 e2 b1 b2 b3 b4 b5 hv hs hul hwl
    generalize lo[i] = l at *
    generalize hi[i] = h at *
    generalize u[i] = m at *
    generalize v[i] = n at *
    simp (maxSteps := 1000000) (implicitDefEqProofs := false) only [a1, a2, a3, a4, a5, a6, g1, g2, g3, g4, w0, w1, w2, w3, w4, w5, vI, evRegion_st hk1, Int.natCast_nonneg, Int.toNat_natCast, List.getElem?_map, List.length_map, ss, sd, evOp, evPlain, evVal, evMem, St.get, sliceOf, arrayOf, fieldsOf, normOf, norm, look, evVar, evFieldAddr, nameOf, St.alloc, St.drop, killOb, part, splice, depth, resultsV, ↓reduceIte, Nat.reduceBEq, Nat.reduceAdd, Nat.reduceSub, Nat.reduceMul, Nat.reduceEqDiff, Nat.reduceLeDiff, Nat.reduceLT, effOf, effMem, effVar, effLit, effMake, effApp, lend, evLit, evNil, freeze, evField, evIndexT, orNil, evSlice, placeOf, evMap, mapOf, keyOk, evFrame, closed, fixed, sameEs, wit, Option.isSome_some, St.with, wantedD, Array.size, te, einl, inls, efr]
    (first | exact ⟨(), trivial⟩ | refine ⟨(), ?_, trivial⟩ | skip)
  simp (maxSteps := 1000000) (implicitDefEqProofs := false) only [Int.lt_irrefl, List.length_map, ss, sd, evOp, evPlain, evVal, evMem, St.get, sliceOf, arrayOf, fieldsOf, normOf, norm, look, evVar, evFieldAddr, nameOf, St.alloc, St.drop, killOb, part, splice, depth, resultsV, ↓reduceIte, Nat.reduceBEq, Nat.reduceAdd, Nat.reduceSub, Nat.reduceMul, Nat.reduceEqDiff, Nat.reduceLeDiff, Nat.reduceLT, effOf, effMem, effVar, effLit, effMake, effApp, lend, evLit, evNil, freeze, evField, evIndexT, orNil, evSlice, placeOf, evMap, mapOf, keyOk, evFrame, closed, fixed, sameEs, wit, Option.isSome_some, St.with, wantedD, Array.size, te, einl, inls, efr]
  generalize hr : loopAt _ _ _ _ _ _ = r; revert r
  refine loop_nat cs.length (fun i _ => [(5, .int .i64 (le i)), (7, .int .i64 (i : Nat))]) (fun _ _ => []) (fun _ (_ : Unit) => True) () (by omega) (by simp (maxSteps := 1000000) (implicitDefEqProofs := false) only [h01, Int.natCast_zero, ss, sd, evOp, evPlain, evVal, evMem, St.get, sliceOf, arrayOf, fieldsOf, normOf, norm, look, evVar, evFieldAddr, nameOf, St.alloc, St.drop, killOb, part, splice, depth, resultsV, ↓reduceIte, Nat.reduceBEq, Nat.reduceAdd, Nat.reduceSub, Nat.reduceMul, Nat.reduceEqDiff, Nat.reduceLeDiff, Nat.reduceLT, effOf, effMem, effVar, effLit, effMake, effApp, lend, evLit, evNil, freeze, evField, evIndexT, orNil, evSlice, placeOf, evMap, mapOf, keyOk, evFrame, closed, fixed, sameEs, wit, Option.isSome_some, St.with, wantedD, Array.size, te, einl, inls, efr]) trivial (fun _ _ => ?_) (fun i _ _ a1 a2 a3 => ?_)
  · simp (maxSteps := 1000000) (implicitDefEqProofs := false) only [Int.lt_irrefl, List.length_map, Try.ntmps61, Try.results61, efc61, fc61, ss, sd, evOp, evPlain, evVal, evMem, St.get, sliceOf, arrayOf, fieldsOf, normOf, norm, look, evVar, evFieldAddr, nameOf, St.alloc, St.drop, killOb, part, splice, depth, resultsV, ↓reduceIte, Nat.reduceBEq, Nat.reduceAdd, Nat.reduceSub, Nat.reduceMul, Nat.reduceEqDiff, Nat.reduceLeDiff, Nat.reduceLT, effOf, effMem, effVar, effLit, effMake, effApp, lend, evLit, evNil, freeze, evField, evIndexT, orNil, evSlice, placeOf, evMap, mapOf, keyOk, evFrame, closed, fixed, sameEs, wit, Option.isSome_some, St.with, wantedD, Array.size, te, einl, inls, efr]
  · have g1 : cs[i]? = some cs[i] := List.getElem?_eq_getElem a1
    have g2 : w[i]? = some w[i] := List.getElem?_eq_getElem (by omega)
    have e1 := ls i _ _ g1 g2
    have b1 := mul_in (hst cs[i] (List.getElem_mem _)) (hw' w[i] (List.getElem_mem _))
    have b5 := hs (i + 1) (by omega)
    have w1 : IntKind.i64.wrap (cs[i].st * w[i]) = cs[i].st * w[i] := wrap_in (by omega)
    have w4 : IntKind.i64.wrap (le i - cs[i].st * w[i]) = le (i + 1) := by rw [← e1, wrap_in (by omega)]
    have a4 : (i : Int) < w.length := by omega
    clear e1 b1 b5 hv hs
    generalize cs[i] = c at *
    generalize w[i] = n at *
    simp (maxSteps := 1000000) (implicitDefEqProofs := false) only [a1, a2, a3, a4, g1, g2, w1, w4, encCem, vI, evRegion_st hk2, Int.natCast_nonneg, Int.toNat_natCast, List.getElem?_map, List.length_map, ss, sd, evOp, evPlain, evVal, evMem, St.get, sliceOf, arrayOf, fieldsOf, normOf, norm, look, evVar, evFieldAddr, nameOf, St.alloc, St.drop, killOb, part, splice, depth, resultsV, ↓reduceIte, Nat.reduceBEq, Nat.reduceAdd, Nat.reduceSub, Nat.reduceMul, Nat.reduceEqDiff, Nat.reduceLeDiff, Nat.reduceLT, effOf, effMem, effVar, effLit, effMake, effApp, lend, evLit, evNil, freeze, evField, evIndexT, orNil, evSlice, placeOf, evMap, mapOf, keyOk, evFrame, closed, fixed, sameEs, wit, Option.isSome_some, St.with, wantedD, Array.size, te, einl, inls, efr]
    (first | exact ⟨(), trivial⟩ | refine ⟨(), ?_, trivial⟩ | skip)

theorem q_one : ((1 : Int) != 0) = true := by decide
theorem okT29 : okCode (Try.f29.body.getD .skip) = true := by decide +kernel
set_option maxRecDepth 20000 in
set_option maxHeartbeats 8000000 in
theorem c29 (b : Blend) (p : Pr) : (orcω E XS).call 29 [encBlend b, encPr p] = some (encR (boundR b p)) := by
  refine call_of rfl fn29 rfl ?_
  have hok := okT29
  simp only [Try.f29, Option.getD_some, okCode, Bool.and_eq_true, Bool.and_true, Bool.true_and] at hok
  obtain ⟨hk1, hk2⟩ := hok
  have k1 := c15 b
  unfold boundR
  rcases errV_cases b with he | he
  rotate_left
  · rw [he] at k1 ⊢
    rw [if_neg (by decide)]
    obtain ⟨tot, cs, lo, hi⟩ := b
    obtain ⟨den, y, u, v, w⟩ := p
    simp only [encBlend, encPr] at k1 ⊢
    simp (maxSteps := 1000000) (implicitDefEqProofs := false) only [Try.ntmps29, Try.results29, efc29, fc29, encR, k1, q_one, ss, sd, evOp, evPlain, evVal, evMem, St.get, sliceOf, arrayOf, fieldsOf, normOf, norm, look, evVar, evFieldAddr, nameOf, St.alloc, St.drop, killOb, part, splice, depth, resultsV, ↓reduceIte, Nat.reduceBEq, Nat.reduceAdd, Nat.reduceSub, Nat.reduceMul, Nat.reduceEqDiff, Nat.reduceLeDiff, Nat.reduceLT, effOf, effMem, effVar, effLit, effMake, effApp, lend, evLit, evNil, freeze, evField, evIndexT, orNil, evSlice, placeOf, evMap, mapOf, keyOk, evFrame, closed, fixed, sameEs, wit, Option.isSome_some, St.with, wantedD, Array.size, te, einl, inls, efr]
  rw [he] at k1 ⊢
  rw [if_pos rfl]
  have hv := errV_zero he
  have hl := hv.2.1
  have h3 := hv.2.2.1
  have k2 := c67 b p (by omega) (by omega)
  cases hr : rightP b p with
  | false =>
    rw [hr] at k2
    rw [if_neg (by decide)]
    obtain ⟨tot, cs, lo, hi⟩ := b
    obtain ⟨den, y, u, v, w⟩ := p
    simp only [encBlend, encPr] at k1 k2 ⊢
    simp (maxSteps := 1000000) (implicitDefEqProofs := false) only [Try.ntmps29, Try.results29, efc29, fc29, encR, k1, k2, bne_self_eq_false, ss, sd, evOp, evPlain, evVal, evMem, St.get, sliceOf, arrayOf, fieldsOf, normOf, norm, look, evVar, evFieldAddr, nameOf, St.alloc, St.drop, killOb, part, splice, depth, resultsV, ↓reduceIte, Nat.reduceBEq, Nat.reduceAdd, Nat.reduceSub, Nat.reduceMul, Nat.reduceEqDiff, Nat.reduceLeDiff, Nat.reduceLT, effOf, effMem, effVar, effLit, effMake, effApp, lend, evLit, evNil, freeze, evField, evIndexT, orNil, evSlice, placeOf, evMap, mapOf, keyOk, evFrame, closed, fixed, sameEs, wit, Option.isSome_some, St.with, wantedD, Array.size, te, einl, inls, efr]
  | true =>
  rw [hr] at k2
  rw [if_pos rfl]
  have hp := rightP_iff.1 hr
  have hf := hp.fine
  have k3 := fun (i : Nat) (c : Cem) (hc : b.cs[i]? = some c) => c68 c p (by have := hf.1; omega) (fine_in hv hf hc).1 (by rw [(fine_in hv hf hc).2]; exact h3) hf.2.2.2.2.1 hf.2.2.2.2.2.1 (by rw [(fine_in hv hf hc).2]; exact hf.2.1) (by rw [(fine_in hv hf hc).2]; exact hf.2.2.1)
  have k4 := c69 b p hv hf
  have hV := value_in hv hf
  have k5 := c65 (valueM b p) p.den (by omega) (by have := hp.1; omega)
  have hg := fun i => gainAt_in (i := i) hv hf
  have dy := fun i => dear_yes (b := b) (p := p) (i := i)
  have dn := dear_iff (b := b) (p := p)
  have hco := fun c hc => (cemOk_iff.1 (hv.2.2.2.2.2.2.2 c hc)).2.1
  have ca := fun i c => coAt_some (b := b) (i := i) (c := c)
  have pa := fun i c => psAt_some (b := b) (i := i) (c := c)
  have ga : ∀ i, gainAt b p i = gainM (psAt b i) p - p.w.getD i 0 := fun _ => rfl
  have hden := hp.1
  have lw := hf.2.2.2.1
  clear hf hp hr hv he
  generalize gainAt b p = gA at *
  generalize dearB b p = dB at *
  generalize valueM b p = va at *
  generalize coAt b = cA at *
  generalize psAt b = pA at *
  generalize hgM : (fun l => gainM l p) = gM at *
  have hgM' : ∀ l, gainM l p = gM l := fun l => by rw [← hgM]
  simp only [hgM'] at *
  clear hgM hgM'
  generalize makeR va p.den = mm at *
  obtain ⟨tot, cs, lo, hi⟩ := b
  obtain ⟨den, y, u, v, w⟩ := p
  unfold encR at k5
  simp only [encBlend, encPr] at k1 k2 k3 k4 ⊢
  dsimp only at *
  simp (maxSteps := 1000000) (implicitDefEqProofs := false) only [Try.ntmps29, Try.results29, efc29, fc29, k1, k2, bne_self_eq_false, List.length_map, ss, sd, evOp, evPlain, evVal, evMem, St.get, sliceOf, arrayOf, fieldsOf, normOf, norm, look, evVar, evFieldAddr, nameOf, St.alloc, St.drop, killOb, part, splice, depth, resultsV, ↓reduceIte, Nat.reduceBEq, Nat.reduceAdd, Nat.reduceSub, Nat.reduceMul, Nat.reduceEqDiff, Nat.reduceLeDiff, Nat.reduceLT, effOf, effMem, effVar, effLit, effMake, effApp, lend, evLit, evNil, freeze, evField, evIndexT, orNil, evSlice, placeOf, evMap, mapOf, keyOk, evFrame, closed, fixed, sameEs, wit, Option.isSome_some, St.with, wantedD, Array.size, te, einl, inls, efr]
  generalize hr : loopAt _ _ _ _ _ _ = r; revert r
  refine loop_nat cs.length (fun i _ => [(23, .int .i64 (i : Nat))]) (fun _ _ => []) (fun i (_ : Unit) => ∀ j, j < i → ¬ den * cA j < gA j) () (by omega) (by simp (maxSteps := 1000000) (implicitDefEqProofs := false) only [Int.natCast_zero, ss, sd, evOp, evPlain, evVal, evMem, St.get, sliceOf, arrayOf, fieldsOf, normOf, norm, look, evVar, evFieldAddr, nameOf, St.alloc, St.drop, killOb, part, splice, depth, resultsV, ↓reduceIte, Nat.reduceBEq, Nat.reduceAdd, Nat.reduceSub, Nat.reduceMul, Nat.reduceEqDiff, Nat.reduceLeDiff, Nat.reduceLT, effOf, effMem, effVar, effLit, effMake, effApp, lend, evLit, evNil, freeze, evField, evIndexT, orNil, evSlice, placeOf, evMap, mapOf, keyOk, evFrame, closed, fixed, sameEs, wit, Option.isSome_some, St.with, wantedD, Array.size, te, einl, inls, efr]) (fun _ h => by omega) (fun _ hS => ?_) (fun i _ hS a1 a2 a3 => ?_)
  · have e1 := dn.2 hS
    simp (maxSteps := 1000000) (implicitDefEqProofs := false) only [Int.lt_irrefl, e1, k4, k5, encR, evRegion_st hk2, Bool.false_eq_true, if_false, Try.ntmps29, Try.results29, efc29, fc29, ss, sd, evOp, evPlain, evVal, evMem, St.get, sliceOf, arrayOf, fieldsOf, normOf, norm, look, evVar, evFieldAddr, nameOf, St.alloc, St.drop, killOb, part, splice, depth, resultsV, ↓reduceIte, Nat.reduceBEq, Nat.reduceAdd, Nat.reduceSub, Nat.reduceMul, Nat.reduceEqDiff, Nat.reduceLeDiff, Nat.reduceLT, effOf, effMem, effVar, effLit, effMake, effApp, lend, evLit, evNil, freeze, evField, evIndexT, orNil, evSlice, placeOf, evMap, mapOf, keyOk, evFrame, closed, fixed, sameEs, wit, Option.isSome_some, St.with, wantedD, Array.size, te, einl, inls, efr]
  · have g1 : cs[i]? = some cs[i] := List.getElem?_eq_getElem a1
    have g2 : w[i]? = some w[i] := List.getElem?_eq_getElem (by omega)
    have e0 := ga i
    rw [pa i _ g1, getD_some g2] at e0
    have e2 := ca i _ g1
    have k6 := k3 i _ g1
    have b1 := hg i a1
    rw [pa i _ g1] at b1
    have b2 := mul_in (show 0 ≤ den ∧ den ≤ 1048576 by omega) (hco cs[i] (List.getElem_mem _))
    have w1 : IntKind.i64.wrap (gM cs[i].ps - w[i]) = gA i := by rw [← e0, wrap_in (by omega)]
    have w2 : IntKind.i64.wrap (den * cs[i].co) = den * cA i := by rw [e2, wrap_in (by omega)]
    have a4 : (i : Int) < w.length := by omega
    have dyi := dy i a1
    by_cases hlt : den * cA i < gA i
    · have e5 := dyi hlt
      clear b1 b2 e0 e2 dyi hS
      generalize cs[i] = c at *
      generalize w[i] = n at *
      obtain ⟨st, co, ps⟩ := c
      simp only [encCem] at k6
      dsimp only at *
      simp (maxSteps := 1000000) (implicitDefEqProofs := false) only [a1, a2, a3, a4, g1, g2, k6, w1, w2, hlt, e5, encR, encCem, vI, evRegion_st hk1, if_true, Int.natCast_nonneg, Int.toNat_natCast, List.getElem?_map, List.length_map, Try.ntmps29, Try.results29, efc29, fc29, ss, sd, evOp, evPlain, evVal, evMem, St.get, sliceOf, arrayOf, fieldsOf, normOf, norm, look, evVar, evFieldAddr, nameOf, St.alloc, St.drop, killOb, part, splice, depth, resultsV, ↓reduceIte, Nat.reduceBEq, Nat.reduceAdd, Nat.reduceSub, Nat.reduceMul, Nat.reduceEqDiff, Nat.reduceLeDiff, Nat.reduceLT, effOf, effMem, effVar, effLit, effMake, effApp, lend, evLit, evNil, freeze, evField, evIndexT, orNil, evSlice, placeOf, evMap, mapOf, keyOk, evFrame, closed, fixed, sameEs, wit, Option.isSome_some, St.with, wantedD, Array.size, te, einl, inls, efr]
    · have hS' : ∀ j, j < i + 1 → ¬ den * cA j < gA j := by
        intro j hj
        by_cases hji : j = i
        · subst hji; exact hlt
        · exact hS j (by omega)
      clear b1 b2 e0 e2 dyi hS
      generalize cs[i] = c at *
      generalize w[i] = n at *
      obtain ⟨st, co, ps⟩ := c
      simp only [encCem] at k6
      dsimp only at *
      simp (maxSteps := 1000000) (implicitDefEqProofs := false) only [a1, a2, a3, a4, g1, g2, k6, w1, w2, hlt, encCem, vI, evRegion_st hk1, Int.natCast_nonneg, Int.toNat_natCast, List.getElem?_map, List.length_map, ss, sd, evOp, evPlain, evVal, evMem, St.get, sliceOf, arrayOf, fieldsOf, normOf, norm, look, evVar, evFieldAddr, nameOf, St.alloc, St.drop, killOb, part, splice, depth, resultsV, ↓reduceIte, Nat.reduceBEq, Nat.reduceAdd, Nat.reduceSub, Nat.reduceMul, Nat.reduceEqDiff, Nat.reduceLeDiff, Nat.reduceLT, effOf, effMem, effVar, effLit, effMake, effApp, lend, evLit, evNil, freeze, evField, evIndexT, orNil, evSlice, placeOf, evMap, mapOf, keyOk, evFrame, closed, fixed, sameEs, wit, Option.isSome_some, St.with, wantedD, Array.size, te, einl, inls, efr]
      exact ⟨(), hS'⟩
theorem proofB_iff {b : Blend} {p : Pr} : proofB b p = true ↔ Valid b ∧ RightP b p ∧ (∀ i, i < b.cs.length → gainAt b p i ≤ 0) ∧ 0 < valueM b p := by
  unfold proofB
  simp only [Bool.and_eq_true, decide_eq_true_eq, Bool.not_eq_true', gainB_iff, rightP_iff]
  constructor
  · rintro ⟨⟨⟨h1, h2⟩, h3⟩, h4⟩
    exact ⟨errV_zero h1, h2, fun i hi => by have := h3 i hi; omega, h4⟩
  · rintro ⟨h1, h2, h3, h4⟩
    exact ⟨⟨⟨errV_yes h1, h2⟩, fun i hi => by have := h3 i hi; omega⟩, h4⟩
end Go.AM.E
