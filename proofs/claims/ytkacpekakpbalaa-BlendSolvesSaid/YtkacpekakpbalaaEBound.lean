/-
The bound of prices, and which prices are a proof.
-/
import Derived.Test.YtkacpekakpbalaaEPrice
set_option linter.unusedVariables false
set_option linter.unusedSimpArgs false
set_option maxRecDepth 20000

namespace Go.AM.E
open Go Go.AM Go.Proofs

def coAt (b : Blend) (i : Nat) : Int := (b.cs.getD i cem0).co
def psAt (b : Blend) (i : Nat) : List Int := (b.cs.getD i cem0).ps
theorem coAt_some {b : Blend} {i : Nat} {c : Cem} (h : b.cs[i]? = some c) : coAt b i = c.co := by
  unfold coAt
  rw [List.getD_eq_getElem?_getD, h]
  rfl
theorem psAt_some {b : Blend} {i : Nat} {c : Cem} (h : b.cs[i]? = some c) : psAt b i = c.ps := by
  unfold psAt
  rw [List.getD_eq_getElem?_getD, h]
  rfl
def gainAt (b : Blend) (p : Pr) (i : Nat) : Int := gainM (psAt b i) p - p.w.getD i 0
def dearB (b : Blend) (p : Pr) : Bool := (List.range b.cs.length).any fun i => decide (p.den * coAt b i < gainAt b p i)
def gainB (b : Blend) (p : Pr) : Bool := (List.range b.cs.length).any fun i => decide (0 < gainAt b p i)
theorem dear_iff {b : Blend} {p : Pr} : dearB b p = false ↔ ∀ i, i < b.cs.length → ¬ p.den * coAt b i < gainAt b p i := by
  unfold dearB
  rw [List.any_eq_false]
  simp
theorem dear_yes {b : Blend} {p : Pr} {i : Nat} (hi : i < b.cs.length) (h : p.den * coAt b i < gainAt b p i) : dearB b p = true := by
  cases hs : dearB b p with
  | true => rfl
  | false => exact absurd h (dear_iff.1 hs i hi)
theorem gainB_iff {b : Blend} {p : Pr} : gainB b p = false ↔ ∀ i, i < b.cs.length → ¬ 0 < gainAt b p i := by
  unfold gainB
  rw [List.any_eq_false]
  simp
theorem gain_yes {b : Blend} {p : Pr} {i : Nat} (hi : i < b.cs.length) (h : 0 < gainAt b p i) : gainB b p = true := by
  cases hs : gainB b p with
  | true => rfl
  | false => exact absurd h (gainB_iff.1 hs i hi)
def boundR (b : Blend) (p : Pr) : Int × Int × Int :=
  if errV b = 0 then (if rightP b p = true then (if dearB b p = true then (0, 0, 9) else makeR (valueM b p) p.den) else (0, 0, 1)) else (0, 0, 1)
def proofB (b : Blend) (p : Pr) : Bool := decide (errV b = 0) && rightP b p && !gainB b p && decide (0 < valueM b p)

theorem gain_move (y0 d : Int) (ps u v : List Int) : ∀ k : Nat, gainTo (y0 - d) ps u v k = gainTo y0 ps u v k - d
  | 0 => rfl
  | k + 1 => by
    show gainTo (y0 - d) ps u v k + _ = gainTo y0 ps u v k + _ - d
    rw [gain_move y0 d ps u v k]
    omega
theorem fine_in {b : Blend} {p : Pr} (hb : Valid b) (hp : Fine b p) {i : Nat} {c : Cem} (hc : b.cs[i]? = some c) : (∀ n ∈ c.ps, 0 ≤ n ∧ n ≤ 20) ∧ c.ps.length = b.lo.length := by
  have := cemOk_iff.1 (hb.2.2.2.2.2.2.2 c (List.mem_of_getElem? hc))
  exact ⟨this.2.2.2, this.2.2.1⟩
theorem okT60 : okCode (Try.f60.body.getD .skip) = true := by decide +kernel
set_option maxRecDepth 20000 in
set_option maxHeartbeats 4000000 in
theorem c60 (b : Blend) (p : Pr) (hb : Valid b) (hp : Fine b p) (j : Nat) (hj : j < b.cs.length) : (orcω E XS).call 60 [encBlend b, encPr p, .int .i64 j] = some (.int .i64 (gainAt b p j)) := by
  refine call_of rfl fn60 rfl ?_
  have hok := okT60
  simp only [Try.f60, Option.getD_some, okCode, Bool.and_eq_true, Bool.and_true, Bool.true_and] at hok
  obtain ⟨hk1, hk2⟩ := hok
  have hc : b.cs[j]? = some b.cs[j] := List.getElem?_eq_getElem hj
  obtain ⟨f1, f2⟩ := fine_in hb hp hc
  have h3 := hb.2.2.1
  have h5 := hb.2.1
  unfold gainAt
  rw [psAt_some hc]
  generalize b.cs[j] = cj at *
  obtain ⟨hy, l1, l2, l3, hu, hv, hw⟩ := hp
  unfold gainM
  rw [← gain_move]
  obtain ⟨tot, cs, lo, hi⟩ := b
  obtain ⟨den, y, u, v, w⟩ := p
  clear hb
  obtain ⟨st, co, ps⟩ := cj
  unfold encBlend encPr
  dsimp only at *
  have g0 : w[j]? = some w[j] := List.getElem?_eq_getElem (by omega)
  have hwj := hw w[j] (List.getElem_mem _)
  rw [getD_some g0, f2]
  generalize w[j] = wj at *
  have hin := gain_in (y0 := y) (by omega) f1 hu hv (by omega) (by omega)
  have w9 : IntKind.i64.wrap (y - wj) = y - wj := wrap_in (by omega)
  have j1 : (j : Int) < w.length := by omega
  have j2 : (j : Int) < cs.length := by omega
  simp (maxSteps := 1000000) (implicitDefEqProofs := false) only [Try.ntmps60, Try.results60, efc60, fc60, j1, g0, w9, vI, evRegion_st hk1, Int.natCast_nonneg, Int.toNat_natCast, List.getElem?_map, List.length_map, ss, sd, zI, qG, zG, zH, St.get, qE, qF, qB, zD, norm, look, zF, qA, qI, St.alloc, St.drop, zA, part, zC, depth, qD, ↓reduceIte, Nat.reduceBEq, Nat.reduceAdd, Nat.reduceSub, Nat.reduceMul, Nat.reduceEqDiff, Nat.reduceLeDiff, Nat.reduceLT, qJ, qK, qL, qM, qN, qO, qP, qQ, qR, zJ, qS, qC, qT, qU, qV, qW, qX, qY, qZ, zK, fixed, zL, wit, Option.isSome_some, qH, St.with, zE, Array.size, te, einl, inls, efr]
  generalize hr : loopAt _ _ _ _ _ _ = r; revert r
  refine loop_nat lo.length (fun i _ => [(7, .int .i64 (gainTo (y - wj) ps u v i)), (8, .int .i64 (i : Nat))]) (fun _ _ => []) (fun _ (_ : Unit) => True) () (by omega) (by simp (maxSteps := 1000000) (implicitDefEqProofs := false) only [gainTo, Int.natCast_zero, ss, sd, zI, qG, zG, zH, St.get, qE, qF, qB, zD, norm, look, zF, qA, qI, St.alloc, St.drop, zA, part, zC, depth, qD, ↓reduceIte, Nat.reduceBEq, Nat.reduceAdd, Nat.reduceSub, Nat.reduceMul, Nat.reduceEqDiff, Nat.reduceLeDiff, Nat.reduceLT, qJ, qK, qL, qM, qN, qO, qP, qQ, qR, zJ, qS, qC, qT, qU, qV, qW, qX, qY, qZ, zK, fixed, zL, wit, Option.isSome_some, qH, St.with, zE, Array.size, te, einl, inls, efr]) trivial (fun _ _ => ?_) (fun i _ _ a1 a2 a3 => ?_)
  · simp (maxSteps := 1000000) (implicitDefEqProofs := false) only [Int.lt_irrefl, List.length_map, Try.ntmps60, Try.results60, efc60, fc60, ss, sd, zI, qG, zG, zH, St.get, qE, qF, qB, zD, norm, look, zF, qA, qI, St.alloc, St.drop, zA, part, zC, depth, qD, ↓reduceIte, Nat.reduceBEq, Nat.reduceAdd, Nat.reduceSub, Nat.reduceMul, Nat.reduceEqDiff, Nat.reduceLeDiff, Nat.reduceLT, qJ, qK, qL, qM, qN, qO, qP, qQ, qR, zJ, qS, qC, qT, qU, qV, qW, qX, qY, qZ, zK, fixed, zL, wit, Option.isSome_some, qH, St.with, zE, Array.size, te, einl, inls, efr]
  · have g1 : ps[i]? = some ps[i] := List.getElem?_eq_getElem (by omega)
    have g2 : u[i]? = some u[i] := List.getElem?_eq_getElem (by omega)
    have g3 : v[i]? = some v[i] := List.getElem?_eq_getElem (by omega)
    have e1 := gain_step (y0 := y - wj) g1 g2 g3
    have b1 := hu u[i] (List.getElem_mem _)
    have b2 := hv v[i] (List.getElem_mem _)
    have b3 := mul_two (b := u[i] - v[i]) (B := 1099511627776) (f1 ps[i] (List.getElem_mem _)) (by omega)
    have b4 := hin i (by omega)
    have b5 := hin (i + 1) (by omega)
    have m1 := gain_move y wj ps u v (i + 1)
    have w0 : IntKind.i64.wrap (u[i] - v[i]) = u[i] - v[i] := wrap_in (by omega)
    have w1 : IntKind.i64.wrap (ps[i] * (u[i] - v[i])) = ps[i] * (u[i] - v[i]) := wrap_in (by omega)
    have w2 : IntKind.i64.wrap (gainTo (y - wj) ps u v i + ps[i] * (u[i] - v[i])) = gainTo (y - wj) ps u v (i + 1) := by rw [← e1, wrap_in (by omega)]
    have a4 : (i : Int) < u.length := by omega
    have a5 : (i : Int) < v.length := by omega
    have a6 : (i : Int) < ps.length := by omega
    clear e1 b1 b2 b3 b4 b5 hin m1
    generalize ps[i] = c at *
    generalize u[i] = m at *
    generalize v[i] = n at *
    simp (maxSteps := 1000000) (implicitDefEqProofs := false) only [a1, a2, a3, a4, a5, a6, hc, j2, g1, g2, g3, w0, w1, w2, encCem, vI, evRegion_st hk2, Int.natCast_nonneg, Int.toNat_natCast, List.getElem?_map, List.length_map, ss, sd, zI, qG, zG, zH, St.get, qE, qF, qB, zD, norm, look, zF, qA, qI, St.alloc, St.drop, zA, part, zC, depth, qD, ↓reduceIte, Nat.reduceBEq, Nat.reduceAdd, Nat.reduceSub, Nat.reduceMul, Nat.reduceEqDiff, Nat.reduceLeDiff, Nat.reduceLT, qJ, qK, qL, qM, qN, qO, qP, qQ, qR, zJ, qS, qC, qT, qU, qV, qW, qX, qY, qZ, zK, fixed, zL, wit, Option.isSome_some, qH, St.with, zE, Array.size, te, einl, inls, efr]
    (first | exact ⟨(), trivial⟩ | refine ⟨(), ?_, trivial⟩ | skip)

theorem okT61 : okCode (Try.f61.body.getD .skip) = true := by decide +kernel
set_option maxRecDepth 20000 in
set_option maxHeartbeats 8000000 in
theorem c61 (b : Blend) (p : Pr) (hb : Valid b) (hp : Fine b p) : (orcω E XS).call 61 [encBlend b, encPr p] = some (.int .i64 (valueM b p)) := by
  refine call_of rfl fn61 rfl ?_
  have hok := okT61
  simp only [Try.f61, Option.getD_some, okCode, Bool.and_eq_true, Bool.and_true, Bool.true_and] at hok
  obtain ⟨hk1, hk2⟩ := hok
  have hv := val_in hb hp
  have hs := less_in hb hp (val_all hb hp)
  have hT := hb.1
  have hst := st_in hb
  have hlo := hb.2.2.2.2.1
  have hhi := hb.2.2.2.2.2.1
  have hn3 := hb.2.2.1
  have hlh := hb.2.2.2.1
  have hl5 := hb.2.1
  obtain ⟨hy, l1, l2, l3, hu, hw, hw'⟩ := hp
  have vs := fun k l h m n => val_step (b := b) (p := p) (k := k) (l := l) (h := h) (m := m) (n := n)
  have ls := fun k c n => less_step (b := b) (p := p) (v0 := valTo b p b.lo.length) (k := k) (c := c) (n := n)
  have h00 : valTo b p 0 = p.y * b.tot := rfl
  have h01 : lessTo b p (valTo b p b.lo.length) 0 = valTo b p b.lo.length := rfl
  unfold valueM
  generalize lessTo b p (valTo b p b.lo.length) = le at *
  generalize valTo b p = va at *
  obtain ⟨tot, cs, lo, hi⟩ := b
  obtain ⟨den, y, u, v, w⟩ := p
  clear hb
  unfold encBlend encPr
  dsimp only at *
  have w9 : IntKind.i64.wrap (y * tot) = va 0 := by rw [← h00]; have := hv 0 (by omega); exact wrap_in (by omega)
  simp (maxSteps := 1000000) (implicitDefEqProofs := false) only [Try.ntmps61, Try.results61, efc61, fc61, w9, List.length_map, ss, sd, zI, qG, zG, zH, St.get, qE, qF, qB, zD, norm, look, zF, qA, qI, St.alloc, St.drop, zA, part, zC, depth, qD, ↓reduceIte, Nat.reduceBEq, Nat.reduceAdd, Nat.reduceSub, Nat.reduceMul, Nat.reduceEqDiff, Nat.reduceLeDiff, Nat.reduceLT, qJ, qK, qL, qM, qN, qO, qP, qQ, qR, zJ, qS, qC, qT, qU, qV, qW, qX, qY, qZ, zK, fixed, zL, wit, Option.isSome_some, qH, St.with, zE, Array.size, te, einl, inls, efr]
  generalize hr : loopAt _ _ _ _ _ _ = r; revert r
  refine loop_nat lo.length (fun i _ => [(5, .int .i64 (va i)), (6, .int .i64 (i : Nat))]) (fun _ _ => []) (fun _ (_ : Unit) => True) () (by omega) (by simp (maxSteps := 1000000) (implicitDefEqProofs := false) only [Int.natCast_zero, ss, sd, zI, qG, zG, zH, St.get, qE, qF, qB, zD, norm, look, zF, qA, qI, St.alloc, St.drop, zA, part, zC, depth, qD, ↓reduceIte, Nat.reduceBEq, Nat.reduceAdd, Nat.reduceSub, Nat.reduceMul, Nat.reduceEqDiff, Nat.reduceLeDiff, Nat.reduceLT, qJ, qK, qL, qM, qN, qO, qP, qQ, qR, zJ, qS, qC, qT, qU, qV, qW, qX, qY, qZ, zK, fixed, zL, wit, Option.isSome_some, qH, St.with, zE, Array.size, te, einl, inls, efr]) trivial (fun _ _ => ?_) (fun i _ _ a1 a2 a3 => ?_)
  rotate_left
  · have g1 : lo[i]? = some lo[i] := List.getElem?_eq_getElem a1
    have g2 : hi[i]? = some hi[i] := List.getElem?_eq_getElem (by omega)
    have g3 : u[i]? = some u[i] := List.getElem?_eq_getElem (by omega)
    have g4 : v[i]? = some v[i] := List.getElem?_eq_getElem (by omega)
    have e1 := vs i _ _ _ _ g1 g2 g3 g4
    have hul := hu u[i] (List.getElem_mem _)
    have hwl := hw v[i] (List.getElem_mem _)
    have b1 := mul_in (hlo lo[i] (List.getElem_mem _)) (show 0 ≤ tot ∧ tot ≤ 1000 by omega)
    have b2 := mul_in (hhi hi[i] (List.getElem_mem _)) (show 0 ≤ tot ∧ tot ≤ 1000 by omega)
    have b3 := mul_in b1 hul
    have b4 := mul_in b2 hwl
    have e2 : tot * (lo[i] * u[i] - hi[i] * v[i]) = lo[i] * tot * u[i] - hi[i] * tot * v[i] := by
      rw [Int.mul_sub, Int.mul_comm lo[i] tot, Int.mul_comm hi[i] tot, Int.mul_assoc, Int.mul_assoc]
    have b5 := hv (i + 1) (by omega)
    have w0 : IntKind.i64.wrap (lo[i] * tot) = lo[i] * tot := wrap_in (by omega)
    have w1 : IntKind.i64.wrap (hi[i] * tot) = hi[i] * tot := wrap_in (by omega)
    have w2 : IntKind.i64.wrap (lo[i] * tot * u[i]) = lo[i] * tot * u[i] := wrap_in (by omega)
    have w3 : IntKind.i64.wrap (hi[i] * tot * v[i]) = hi[i] * tot * v[i] := wrap_in (by omega)
    have w5 : IntKind.i64.wrap (lo[i] * tot * u[i] - hi[i] * tot * v[i]) = lo[i] * tot * u[i] - hi[i] * tot * v[i] := wrap_in (by omega)
    have w4 : IntKind.i64.wrap (va i + (lo[i] * tot * u[i] - hi[i] * tot * v[i])) = va (i + 1) := by rw [← e2, ← e1, wrap_in (by omega)]
    have a4 : (i : Int) < u.length := by omega
    have a5 : (i : Int) < v.length := by omega
    have a6 : (i : Int) < hi.length := by omega
    clear e1 e2 b1 b2 b3 b4 b5 hv hs hul hwl
    generalize lo[i] = l at *
    generalize hi[i] = h at *
    generalize u[i] = m at *
    generalize v[i] = n at *
    simp (maxSteps := 1000000) (implicitDefEqProofs := false) only [a1, a2, a3, a4, a5, a6, g1, g2, g3, g4, w0, w1, w2, w3, w4, w5, vI, evRegion_st hk1, Int.natCast_nonneg, Int.toNat_natCast, List.getElem?_map, List.length_map, ss, sd, zI, qG, zG, zH, St.get, qE, qF, qB, zD, norm, look, zF, qA, qI, St.alloc, St.drop, zA, part, zC, depth, qD, ↓reduceIte, Nat.reduceBEq, Nat.reduceAdd, Nat.reduceSub, Nat.reduceMul, Nat.reduceEqDiff, Nat.reduceLeDiff, Nat.reduceLT, qJ, qK, qL, qM, qN, qO, qP, qQ, qR, zJ, qS, qC, qT, qU, qV, qW, qX, qY, qZ, zK, fixed, zL, wit, Option.isSome_some, qH, St.with, zE, Array.size, te, einl, inls, efr]
    (first | exact ⟨(), trivial⟩ | refine ⟨(), ?_, trivial⟩ | skip)
  simp (maxSteps := 1000000) (implicitDefEqProofs := false) only [Int.lt_irrefl, List.length_map, ss, sd, zI, qG, zG, zH, St.get, qE, qF, qB, zD, norm, look, zF, qA, qI, St.alloc, St.drop, zA, part, zC, depth, qD, ↓reduceIte, Nat.reduceBEq, Nat.reduceAdd, Nat.reduceSub, Nat.reduceMul, Nat.reduceEqDiff, Nat.reduceLeDiff, Nat.reduceLT, qJ, qK, qL, qM, qN, qO, qP, qQ, qR, zJ, qS, qC, qT, qU, qV, qW, qX, qY, qZ, zK, fixed, zL, wit, Option.isSome_some, qH, St.with, zE, Array.size, te, einl, inls, efr]
  generalize hr : loopAt _ _ _ _ _ _ = r; revert r
  refine loop_nat cs.length (fun i _ => [(5, .int .i64 (le i)), (7, .int .i64 (i : Nat))]) (fun _ _ => []) (fun _ (_ : Unit) => True) () (by omega) (by simp (maxSteps := 1000000) (implicitDefEqProofs := false) only [h01, Int.natCast_zero, ss, sd, zI, qG, zG, zH, St.get, qE, qF, qB, zD, norm, look, zF, qA, qI, St.alloc, St.drop, zA, part, zC, depth, qD, ↓reduceIte, Nat.reduceBEq, Nat.reduceAdd, Nat.reduceSub, Nat.reduceMul, Nat.reduceEqDiff, Nat.reduceLeDiff, Nat.reduceLT, qJ, qK, qL, qM, qN, qO, qP, qQ, qR, zJ, qS, qC, qT, qU, qV, qW, qX, qY, qZ, zK, fixed, zL, wit, Option.isSome_some, qH, St.with, zE, Array.size, te, einl, inls, efr]) trivial (fun _ _ => ?_) (fun i _ _ a1 a2 a3 => ?_)
  · simp (maxSteps := 1000000) (implicitDefEqProofs := false) only [Int.lt_irrefl, List.length_map, Try.ntmps61, Try.results61, efc61, fc61, ss, sd, zI, qG, zG, zH, St.get, qE, qF, qB, zD, norm, look, zF, qA, qI, St.alloc, St.drop, zA, part, zC, depth, qD, ↓reduceIte, Nat.reduceBEq, Nat.reduceAdd, Nat.reduceSub, Nat.reduceMul, Nat.reduceEqDiff, Nat.reduceLeDiff, Nat.reduceLT, qJ, qK, qL, qM, qN, qO, qP, qQ, qR, zJ, qS, qC, qT, qU, qV, qW, qX, qY, qZ, zK, fixed, zL, wit, Option.isSome_some, qH, St.with, zE, Array.size, te, einl, inls, efr]
  · have g1 : cs[i]? = some cs[i] := List.getElem?_eq_getElem a1
    have g2 : w[i]? = some w[i] := List.getElem?_eq_getElem (by omega)
    have e1 := ls i _ _ g1 g2
    have b1 := mul_in (hst cs[i] (List.getElem_mem _)) (hw' w[i] (List.getElem_mem _))
    have b5 := hs (i + 1) (by omega)
    have w1 : IntKind.i64.wrap (cs[i].st * w[i]) = cs[i].st * w[i] := wrap_in (by omega)
    have w4 : IntKind.i64.wrap (le i - cs[i].st * w[i]) = le (i + 1) := by rw [← e1, wrap_in (by omega)]
    have a4 : (i : Int) < w.length := by omega
    clear e1 b1 b5 hv hs
    generalize cs[i] = c at *
    generalize w[i] = n at *
    simp (maxSteps := 1000000) (implicitDefEqProofs := false) only [a1, a2, a3, a4, g1, g2, w1, w4, encCem, vI, evRegion_st hk2, Int.natCast_nonneg, Int.toNat_natCast, List.getElem?_map, List.length_map, ss, sd, zI, qG, zG, zH, St.get, qE, qF, qB, zD, norm, look, zF, qA, qI, St.alloc, St.drop, zA, part, zC, depth, qD, ↓reduceIte, Nat.reduceBEq, Nat.reduceAdd, Nat.reduceSub, Nat.reduceMul, Nat.reduceEqDiff, Nat.reduceLeDiff, Nat.reduceLT, qJ, qK, qL, qM, qN, qO, qP, qQ, qR, zJ, qS, qC, qT, qU, qV, qW, qX, qY, qZ, zK, fixed, zL, wit, Option.isSome_some, qH, St.with, zE, Array.size, te, einl, inls, efr]
    (first | exact ⟨(), trivial⟩ | refine ⟨(), ?_, trivial⟩ | skip)

theorem q_one : ((1 : Int) != 0) = true := by decide
theorem proofB_iff {b : Blend} {p : Pr} : proofB b p = true ↔ Valid b ∧ RightP b p ∧ (∀ i, i < b.cs.length → gainAt b p i ≤ 0) ∧ 0 < valueM b p := by
  unfold proofB
  simp only [Bool.and_eq_true, decide_eq_true_eq, Bool.not_eq_true', gainB_iff, rightP_iff]
  constructor
  · rintro ⟨⟨⟨h1, h2⟩, h3⟩, h4⟩
    exact ⟨errV_zero h1, h2, fun i hi => by have := h3 i hi; omega, h4⟩
  · rintro ⟨h1, h2, h3, h4⟩
    exact ⟨⟨⟨errV_yes h1, h2⟩, fun i hi => by have := h3 i hi; omega⟩, h4⟩
end Go.AM.E

