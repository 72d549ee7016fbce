/-
Prices: which are right, their gain and value.
-/
import Derived.Test.YtkacpekakpbalaaECheckB
set_option linter.unusedVariables false
set_option linter.unusedSimpArgs false
set_option maxRecDepth 20000

namespace Go.AM.E
open Go Go.AM Go.Proofs

structure Pr where
  den : Int
  y : Int
  u : List Int
  v : List Int
  w : List Int
def encPr (p : Pr) : V := .agg [.int .i64 p.den, .int .i64 p.y, .sl false (p.u.map vI), .sl false (p.v.map vI), .sl false (p.w.map vI)]
def rightP (b : Blend) (p : Pr) : Bool :=
  inB p.den 1 1048576 && inB p.y (-1073741824) 1073741824 && decide (p.u.length = b.lo.length) && decide (p.v.length = b.lo.length) && decide (p.w.length = b.cs.length) && allB p.u 0 1073741824 && allB p.v 0 1073741824 && allB p.w 0 1073741824
def RightP (b : Blend) (p : Pr) : Prop := (1 ≤ p.den ∧ p.den ≤ 1048576) ∧ (-1073741824 ≤ p.y ∧ p.y ≤ 1073741824) ∧ p.u.length = b.lo.length ∧ p.v.length = b.lo.length ∧ p.w.length = b.cs.length ∧
  (∀ n ∈ p.u, 0 ≤ n ∧ n ≤ 1073741824) ∧ (∀ n ∈ p.v, 0 ≤ n ∧ n ≤ 1073741824) ∧ ∀ n ∈ p.w, 0 ≤ n ∧ n ≤ 1073741824
theorem rightP_iff {b : Blend} {p : Pr} : rightP b p = true ↔ RightP b p := by
  unfold rightP RightP
  simp only [Bool.and_eq_true, inB_iff, allB_iff, decide_eq_true_eq, and_assoc]
def Fine (b : Blend) (p : Pr) : Prop := (-1099511627776 ≤ p.y ∧ p.y ≤ 1099511627776) ∧ p.u.length = b.lo.length ∧ p.v.length = b.lo.length ∧ p.w.length = b.cs.length ∧
  (∀ n ∈ p.u, 0 ≤ n ∧ n ≤ 1099511627776) ∧ (∀ n ∈ p.v, 0 ≤ n ∧ n ≤ 1099511627776) ∧ ∀ n ∈ p.w, 0 ≤ n ∧ n ≤ 281474976710656
theorem RightP.fine {b : Blend} {p : Pr} (h : RightP b p) : Fine b p := by
  obtain ⟨_, h1, h2, h3, h4, h5, h6, h7⟩ := h
  refine ⟨by omega, h2, h3, h4, fun n hn => ?_, fun n hn => ?_, fun n hn => ?_⟩
  · have := h5 n hn; omega
  · have := h6 n hn; omega
  · have := h7 n hn; omega

def gainTo (y0 : Int) (ps u v : List Int) : Nat → Int
  | 0 => y0
  | k + 1 => gainTo y0 ps u v k + ps.getD k 0 * (u.getD k 0 - v.getD k 0)
theorem gain_step {y0 : Int} {ps u v : List Int} {k : Nat} {p m n : Int} (h1 : ps[k]? = some p) (h2 : u[k]? = some m) (h3 : v[k]? = some n) : gainTo y0 ps u v (k + 1) = gainTo y0 ps u v k + p * (m - n) := by
  show _ + _ = _
  rw [getD_some h1, getD_some h2, getD_some h3]
theorem mul_two {a b A B : Int} (h1 : 0 ≤ a ∧ a ≤ A) (h2 : -B ≤ b ∧ b ≤ B) : -(A * B) ≤ a * b ∧ a * b ≤ A * B := by
  have hA : 0 ≤ A := by omega
  rcases Int.le_total 0 b with hb | hb
  · have := mul_in h1 ⟨hb, h2.2⟩
    have h3 := Int.mul_nonneg hA (show 0 ≤ B by omega)
    omega
  · have := mul_in h1 (show 0 ≤ -b ∧ -b ≤ B by omega)
    rw [Int.mul_neg] at this
    have h3 := Int.mul_nonneg hA (show 0 ≤ B by omega)
    omega
theorem gain_in {y0 : Int} {ps u v : List Int} (hy : -2199023255552 ≤ y0 ∧ y0 ≤ 2199023255552) (hp : ∀ n ∈ ps, 0 ≤ n ∧ n ≤ 20) (hu : ∀ n ∈ u, 0 ≤ n ∧ n ≤ 1099511627776) (hv : ∀ n ∈ v, 0 ≤ n ∧ n ≤ 1099511627776) (l1 : u.length = ps.length) (l2 : v.length = ps.length) :
    ∀ k : Nat, k ≤ ps.length → -(2199023255552 + (k : Int) * 21990232555520) ≤ gainTo y0 ps u v k ∧ gainTo y0 ps u v k ≤ 2199023255552 + (k : Int) * 21990232555520
  | 0, _ => by simp [gainTo]; omega
  | k + 1, h => by
    have ih := gain_in hy hp hu hv l1 l2 k (by omega)
    have g1 : ps[k]? = some ps[k] := List.getElem?_eq_getElem (by omega)
    have g2 : u[k]? = some u[k] := List.getElem?_eq_getElem (by omega)
    have g3 : v[k]? = some v[k] := List.getElem?_eq_getElem (by omega)
    have b1 := hu u[k] (List.getElem_mem _)
    have b2 := hv v[k] (List.getElem_mem _)
    have b3 := mul_two (b := u[k] - v[k]) (B := 1099511627776) (hp ps[k] (List.getElem_mem _)) (by omega)
    rw [gain_step g1 g2 g3]
    omega
def gainM (ps : List Int) (p : Pr) : Int := gainTo p.y ps p.u p.v ps.length
def valTo (b : Blend) (p : Pr) : Nat → Int
  | 0 => p.y * b.tot
  | k + 1 => valTo b p k + b.tot * (b.lo.getD k 0 * p.u.getD k 0 - b.hi.getD k 0 * p.v.getD k 0)
def lessTo (b : Blend) (p : Pr) (v0 : Int) : Nat → Int
  | 0 => v0
  | k + 1 => lessTo b p v0 k - stAt b k * p.w.getD k 0
def valueM (b : Blend) (p : Pr) : Int := lessTo b p (valTo b p b.lo.length) b.cs.length
theorem val_step {b : Blend} {p : Pr} {k : Nat} {l h m n : Int} (h1 : b.lo[k]? = some l) (h2 : b.hi[k]? = some h) (h3 : p.u[k]? = some m) (h4 : p.v[k]? = some n) : valTo b p (k + 1) = valTo b p k + b.tot * (l * m - h * n) := by
  show _ + _ = _
  rw [getD_some h1, getD_some h2, getD_some h3, getD_some h4]
theorem less_step {b : Blend} {p : Pr} {v0 : Int} {k : Nat} {c : Cem} {n : Int} (h1 : b.cs[k]? = some c) (h2 : p.w[k]? = some n) : lessTo b p v0 (k + 1) = lessTo b p v0 k - c.st * n := by
  show _ - _ = _
  rw [stAt_some h1, getD_some h2]
theorem val_in {b : Blend} {p : Pr} (hb : Valid b) (hp : Fine b p) : ∀ k : Nat, k ≤ b.lo.length → -(1099511627776000 + (k : Int) * 21990232555520000) ≤ valTo b p k ∧ valTo b p k ≤ 1099511627776000 + (k : Int) * 21990232555520000
  | 0, _ => by
    have := mul_two (a := b.tot) (A := 1000) (b := p.y) (B := 1099511627776) (by have := hb.1; omega) hp.1
    rw [Int.mul_comm b.tot] at this
    show _ ≤ p.y * b.tot ∧ p.y * b.tot ≤ _
    omega
  | k + 1, h => by
    have ih := val_in hb hp k (by omega)
    have l0 := hb.2.2.2.1
    have g1 : b.lo[k]? = some b.lo[k] := List.getElem?_eq_getElem (by omega)
    have g2 : b.hi[k]? = some b.hi[k] := List.getElem?_eq_getElem (by omega)
    have g3 : p.u[k]? = some (p.u[k]'(by have := hp.2.1; omega)) := List.getElem?_eq_getElem _
    have g4 : p.v[k]? = some (p.v[k]'(by have := hp.2.2.1; omega)) := List.getElem?_eq_getElem _
    have b1 := mul_in (hb.2.2.2.2.1 b.lo[k] (List.getElem_mem _)) (hp.2.2.2.2.1 _ (List.mem_of_getElem? g3))
    have b2 := mul_in (hb.2.2.2.2.2.1 b.hi[k] (List.getElem_mem _)) (hp.2.2.2.2.2.1 _ (List.mem_of_getElem? g4))
    rw [val_step g1 g2 g3 g4]
    have b3 := mul_two (a := b.tot) (A := 1000) (b := b.lo[k] * (p.u[k]'(by have := hp.2.1; omega)) - b.hi[k] * (p.v[k]'(by have := hp.2.2.1; omega))) (B := 21990232555520) (by have := hb.1; omega) (by omega)
    omega
theorem less_in {b : Blend} {p : Pr} (hb : Valid b) (hp : Fine b p) {v0 : Int} (hv : -100000000000000000 ≤ v0 ∧ v0 ≤ 100000000000000000) : ∀ k : Nat, k ≤ b.cs.length → -(100000000000000000 + (k : Int) * 281474976710656000) ≤ lessTo b p v0 k ∧ lessTo b p v0 k ≤ 100000000000000000
  | 0, _ => by simp [lessTo]; omega
  | k + 1, h => by
    have ih := less_in hb hp hv k (by omega)
    have g1 : b.cs[k]? = some b.cs[k] := List.getElem?_eq_getElem (by omega)
    have g2 : p.w[k]? = some (p.w[k]'(by have := hp.2.2.2.1; omega)) := List.getElem?_eq_getElem _
    have b1 := mul_in (st_in hb b.cs[k] (List.getElem_mem _)) (hp.2.2.2.2.2.2 _ (List.mem_of_getElem? g2))
    rw [less_step g1 g2]
    omega
theorem val_all {b : Blend} {p : Pr} (hb : Valid b) (hp : Fine b p) : -100000000000000000 ≤ valTo b p b.lo.length ∧ valTo b p b.lo.length ≤ 100000000000000000 := by
  have := val_in hb hp b.lo.length (Nat.le_refl _)
  have := hb.2.2.1
  omega
theorem okT68 : okCode (Try.f68.body.getD .skip) = true := by decide +kernel
set_option maxRecDepth 20000 in
set_option maxHeartbeats 4000000 in
theorem c68 (c : Cem) (p : Pr) (hy : -2199023255552 ≤ p.y ∧ p.y ≤ 2199023255552) (hc : ∀ n ∈ c.ps, 0 ≤ n ∧ n ≤ 20) (h3 : c.ps.length ≤ 3) (hu : ∀ n ∈ p.u, 0 ≤ n ∧ n ≤ 1099511627776) (hv : ∀ n ∈ p.v, 0 ≤ n ∧ n ≤ 1099511627776) (l1 : p.u.length = c.ps.length) (l2 : p.v.length = c.ps.length) :
    (orcω E XS).call 68 [encCem c, encPr p] = some (.int .i64 (gainM c.ps p)) := by
  refine call_of rfl fn68 rfl ?_
  have hok := okT68
  simp only [Try.f68, Option.getD_some, okCode, Bool.and_eq_true, Bool.and_true, Bool.true_and] at hok
  unfold gainM
  obtain ⟨den, y, u, v, w⟩ := p
  obtain ⟨st, co, ps⟩ := c
  unfold encCem encPr
  dsimp only at *
  have hin := gain_in hy hc hu hv l1 l2
  simp (maxSteps := 1000000) (implicitDefEqProofs := false) only [Try.ntmps68, Try.results68, efc68, fc68, List.length_map, ss, sd, zI, qG, zG, zH, St.get, qE, qF, qB, zD, norm, look, zF, qA, qI, St.alloc, St.drop, zA, part, zC, depth, qD, ↓reduceIte, Nat.reduceBEq, Nat.reduceAdd, Nat.reduceSub, Nat.reduceMul, Nat.reduceEqDiff, Nat.reduceLeDiff, Nat.reduceLT, qJ, qK, qL, qM, qN, qO, qP, qQ, qR, zJ, qS, qC, qT, evSlice0, qV, qW, qX, qY, qZ, zK, fixed, zL, wit, Option.isSome_some, qH, evSliceP, evPre, St.with, zE, Array.size, te, einl, inls, efr]
  generalize hr : loopAt _ _ _ _ _ _ = r; revert r
  refine loop_nat ps.length (fun i _ => [(5, .int .i64 (gainTo y ps u v i)), (13, .int .i64 (i : Nat))]) (fun _ _ => []) (fun _ (_ : Unit) => True) () (by omega) (by simp (maxSteps := 1000000) (implicitDefEqProofs := false) only [gainTo, Int.natCast_zero, ss, sd, zI, qG, zG, zH, St.get, qE, qF, qB, zD, norm, look, zF, qA, qI, St.alloc, St.drop, zA, part, zC, depth, qD, ↓reduceIte, Nat.reduceBEq, Nat.reduceAdd, Nat.reduceSub, Nat.reduceMul, Nat.reduceEqDiff, Nat.reduceLeDiff, Nat.reduceLT, qJ, qK, qL, qM, qN, qO, qP, qQ, qR, zJ, qS, qC, qT, evSlice0, qV, qW, qX, qY, qZ, zK, fixed, zL, wit, Option.isSome_some, qH, evSliceP, evPre, St.with, zE, Array.size, te, einl, inls, efr]) trivial (fun _ _ => ?_) (fun i _ _ a1 a2 a3 => ?_)
  · simp (maxSteps := 1000000) (implicitDefEqProofs := false) only [Int.lt_irrefl, Try.ntmps68, Try.results68, efc68, fc68, ss, sd, zI, qG, zG, zH, St.get, qE, qF, qB, zD, norm, look, zF, qA, qI, St.alloc, St.drop, zA, part, zC, depth, qD, ↓reduceIte, Nat.reduceBEq, Nat.reduceAdd, Nat.reduceSub, Nat.reduceMul, Nat.reduceEqDiff, Nat.reduceLeDiff, Nat.reduceLT, qJ, qK, qL, qM, qN, qO, qP, qQ, qR, zJ, qS, qC, qT, evSlice0, qV, qW, qX, qY, qZ, zK, fixed, zL, wit, Option.isSome_some, qH, evSliceP, evPre, St.with, zE, Array.size, te, einl, inls, efr]
  · have g1 : ps[i]? = some ps[i] := List.getElem?_eq_getElem a1
    have g2 : u[i]? = some u[i] := List.getElem?_eq_getElem (by omega)
    have g3 : v[i]? = some v[i] := List.getElem?_eq_getElem (by omega)
    have e1 := gain_step (y0 := y) g1 g2 g3
    have b1 := hu u[i] (List.getElem_mem _)
    have b2 := hv v[i] (List.getElem_mem _)
    have b3 := mul_two (b := u[i] - v[i]) (B := 1099511627776) (hc ps[i] (List.getElem_mem _)) (by omega)
    have b4 := hin i (by omega)
    have b5 := hin (i + 1) (by omega)
    have w0 : IntKind.i64.wrap (u[i] - v[i]) = u[i] - v[i] := wrap_in (by omega)
    have w1 : IntKind.i64.wrap (ps[i] * (u[i] - v[i])) = ps[i] * (u[i] - v[i]) := wrap_in (by omega)
    have w2 : IntKind.i64.wrap (gainTo y ps u v i + ps[i] * (u[i] - v[i])) = gainTo y ps u v (i + 1) := by rw [← e1, wrap_in (by omega)]
    have a4 : (i : Int) < u.length := by omega
    have a5 : (i : Int) < v.length := by omega
    clear e1 b1 b2 b3 b4 b5 hin
    generalize ps[i] = c at *
    generalize u[i] = m at *
    generalize v[i] = n at *
    simp (maxSteps := 1000000) (implicitDefEqProofs := false) only [a1, a2, a3, a4, a5, g1, g2, g3, w0, w1, w2, vI, evRegion_st hok, Int.natCast_nonneg, Int.toNat_natCast, List.getElem?_map, List.length_map, ss, sd, zI, qG, zG, zH, St.get, qE, qF, qB, zD, norm, look, zF, qA, qI, St.alloc, St.drop, zA, part, zC, depth, qD, ↓reduceIte, Nat.reduceBEq, Nat.reduceAdd, Nat.reduceSub, Nat.reduceMul, Nat.reduceEqDiff, Nat.reduceLeDiff, Nat.reduceLT, qJ, qK, qL, qM, qN, qO, qP, qQ, qR, zJ, qS, qC, qT, evSlice0, qV, qW, qX, qY, qZ, zK, fixed, zL, wit, Option.isSome_some, qH, evSliceP, evPre, St.with, zE, Array.size, te, einl, inls, efr]
    (first | exact ⟨(), trivial⟩ | refine ⟨(), ?_, trivial⟩ | skip)

theorem okT69 : okCode (Try.f69.body.getD .skip) = true := by decide +kernel
set_option maxRecDepth 20000 in
set_option maxHeartbeats 8000000 in
theorem c69 (b : Blend) (p : Pr) (hb : Valid b) (hp : Fine b p) : (orcω E XS).call 69 [encBlend b, encPr p] = some (.int .i64 (valueM b p)) := by
  refine call_of rfl fn69 rfl ?_
  have hok := okT69
  simp only [Try.f69, Option.getD_some, okCode, Bool.and_eq_true, Bool.and_true, Bool.true_and] at hok
  obtain ⟨hk1, hk2⟩ := hok
  have hv := val_in hb hp
  have hs := less_in hb hp (val_all hb hp)
  have hT := hb.1
  have hst := st_in hb
  have hlo := hb.2.2.2.2.1
  have hhi := hb.2.2.2.2.2.1
  have hn3 := hb.2.2.1
  have hlh := hb.2.2.2.1
  have hl5 := hb.2.1
  obtain ⟨hy, l1, l2, l3, hu, hw, hw'⟩ := hp
  have vs := fun k l h m n => val_step (b := b) (p := p) (k := k) (l := l) (h := h) (m := m) (n := n)
  have ls := fun k c n => less_step (b := b) (p := p) (v0 := valTo b p b.lo.length) (k := k) (c := c) (n := n)
  have h00 : valTo b p 0 = p.y * b.tot := rfl
  have h01 : lessTo b p (valTo b p b.lo.length) 0 = valTo b p b.lo.length := rfl
  unfold valueM
  generalize lessTo b p (valTo b p b.lo.length) = le at *
  generalize valTo b p = va at *
  obtain ⟨tot, cs, lo, hi⟩ := b
  obtain ⟨den, y, u, v, w⟩ := p
  clear hb
  unfold encBlend encPr
  dsimp only at *
  have w9 : IntKind.i64.wrap (y * tot) = va 0 := by rw [← h00]; have := hv 0 (by omega); exact wrap_in (by omega)
  simp (maxSteps := 1000000) (implicitDefEqProofs := false) only [Try.ntmps69, Try.results69, efc69, fc69, w9, List.length_map, ss, sd, zI, qG, zG, zH, St.get, qE, qF, qB, zD, norm, look, zF, qA, qI, St.alloc, St.drop, zA, part, zC, depth, qD, ↓reduceIte, Nat.reduceBEq, Nat.reduceAdd, Nat.reduceSub, Nat.reduceMul, Nat.reduceEqDiff, Nat.reduceLeDiff, Nat.reduceLT, qJ, qK, qL, qM, qN, qO, qP, qQ, qR, zJ, qS, qC, qT, evSlice0, qV, qW, qX, qY, qZ, zK, fixed, zL, wit, Option.isSome_some, qH, evSliceP, evPre, St.with, zE, Array.size, te, einl, inls, efr]
  generalize hr : loopAt _ _ _ _ _ _ = r; revert r
  refine loop_nat lo.length (fun i _ => [(5, .int .i64 (va i)), (17, .int .i64 (i : Nat))]) (fun _ _ => []) (fun _ (_ : Unit) => True) () (by omega) (by simp (maxSteps := 1000000) (implicitDefEqProofs := false) only [Int.natCast_zero, ss, sd, zI, qG, zG, zH, St.get, qE, qF, qB, zD, norm, look, zF, qA, qI, St.alloc, St.drop, zA, part, zC, depth, qD, ↓reduceIte, Nat.reduceBEq, Nat.reduceAdd, Nat.reduceSub, Nat.reduceMul, Nat.reduceEqDiff, Nat.reduceLeDiff, Nat.reduceLT, qJ, qK, qL, qM, qN, qO, qP, qQ, qR, zJ, qS, qC, qT, evSlice0, qV, qW, qX, qY, qZ, zK, fixed, zL, wit, Option.isSome_some, qH, evSliceP, evPre, St.with, zE, Array.size, te, einl, inls, efr]) trivial (fun _ _ => ?_) (fun i _ _ a1 a2 a3 => ?_)
  rotate_left
  · have g1 : lo[i]? = some lo[i] := List.getElem?_eq_getElem a1
    have g2 : hi[i]? = some hi[i] := List.getElem?_eq_getElem (by omega)
    have g3 : u[i]? = some u[i] := List.getElem?_eq_getElem (by omega)
    have g4 : v[i]? = some v[i] := List.getElem?_eq_getElem (by omega)
    have e1 := vs i _ _ _ _ g1 g2 g3 g4
    have b1 := mul_in (hlo lo[i] (List.getElem_mem _)) (hu u[i] (List.getElem_mem _))
    have b2 := mul_in (hhi hi[i] (List.getElem_mem _)) (hw v[i] (List.getElem_mem _))
    have b3 := mul_two (a := tot) (A := 1000) (b := lo[i] * u[i] - hi[i] * v[i]) (B := 21990232555520) (by omega) (by omega)
    have b5 := hv (i + 1) (by omega)
    have w0 : IntKind.i64.wrap (lo[i] * u[i]) = lo[i] * u[i] := wrap_in (by omega)
    have w1 : IntKind.i64.wrap (hi[i] * v[i]) = hi[i] * v[i] := wrap_in (by omega)
    have w2 : IntKind.i64.wrap (lo[i] * u[i] - hi[i] * v[i]) = lo[i] * u[i] - hi[i] * v[i] := wrap_in (by omega)
    have w3 : IntKind.i64.wrap (tot * (lo[i] * u[i] - hi[i] * v[i])) = tot * (lo[i] * u[i] - hi[i] * v[i]) := wrap_in (by omega)
    have w4 : IntKind.i64.wrap (va i + tot * (lo[i] * u[i] - hi[i] * v[i])) = va (i + 1) := by rw [← e1, wrap_in (by omega)]
    have a4 : (i : Int) < u.length := by omega
    have a5 : (i : Int) < v.length := by omega
    have a6 : (i : Int) < hi.length := by omega
    clear e1 b1 b2 b3 b5 hv hs
    generalize lo[i] = l at *
    generalize hi[i] = h at *
    generalize u[i] = m at *
    generalize v[i] = n at *
    simp (maxSteps := 1000000) (implicitDefEqProofs := false) only [a1, a2, a3, a4, a5, a6, g1, g2, g3, g4, w0, w1, w2, w3, w4, vI, evRegion_st hk1, Int.natCast_nonneg, Int.toNat_natCast, List.getElem?_map, List.length_map, ss, sd, zI, qG, zG, zH, St.get, qE, qF, qB, zD, norm, look, zF, qA, qI, St.alloc, St.drop, zA, part, zC, depth, qD, ↓reduceIte, Nat.reduceBEq, Nat.reduceAdd, Nat.reduceSub, Nat.reduceMul, Nat.reduceEqDiff, Nat.reduceLeDiff, Nat.reduceLT, qJ, qK, qL, qM, qN, qO, qP, qQ, qR, zJ, qS, qC, qT, evSlice0, qV, qW, qX, qY, qZ, zK, fixed, zL, wit, Option.isSome_some, qH, evSliceP, evPre, St.with, zE, Array.size, te, einl, inls, efr]
    (first | exact ⟨(), trivial⟩ | refine ⟨(), ?_, trivial⟩ | skip)
  simp (maxSteps := 1000000) (implicitDefEqProofs := false) only [Int.lt_irrefl, List.length_map, ss, sd, zI, qG, zG, zH, St.get, qE, qF, qB, zD, norm, look, zF, qA, qI, St.alloc, St.drop, zA, part, zC, depth, qD, ↓reduceIte, Nat.reduceBEq, Nat.reduceAdd, Nat.reduceSub, Nat.reduceMul, Nat.reduceEqDiff, Nat.reduceLeDiff, Nat.reduceLT, qJ, qK, qL, qM, qN, qO, qP, qQ, qR, zJ, qS, qC, qT, evSlice0, qV, qW, qX, qY, qZ, zK, fixed, zL, wit, Option.isSome_some, qH, evSliceP, evPre, St.with, zE, Array.size, te, einl, inls, efr]
  generalize hr : loopAt _ _ _ _ _ _ = r; revert r
  refine loop_nat cs.length (fun i _ => [(5, .int .i64 (le i)), (52, .int .i64 (i : Nat))]) (fun _ _ => []) (fun _ (_ : Unit) => True) () (by omega) (by simp (maxSteps := 1000000) (implicitDefEqProofs := false) only [h01, Int.natCast_zero, ss, sd, zI, qG, zG, zH, St.get, qE, qF, qB, zD, norm, look, zF, qA, qI, St.alloc, St.drop, zA, part, zC, depth, qD, ↓reduceIte, Nat.reduceBEq, Nat.reduceAdd, Nat.reduceSub, Nat.reduceMul, Nat.reduceEqDiff, Nat.reduceLeDiff, Nat.reduceLT, qJ, qK, qL, qM, qN, qO, qP, qQ, qR, zJ, qS, qC, qT, evSlice0, qV, qW, qX, qY, qZ, zK, fixed, zL, wit, Option.isSome_some, qH, evSliceP, evPre, St.with, zE, Array.size, te, einl, inls, efr]) trivial (fun _ _ => ?_) (fun i _ _ a1 a2 a3 => ?_)
  · simp (maxSteps := 1000000) (implicitDefEqProofs := false) only [Int.lt_irrefl, Try.ntmps69, Try.results69, efc69, fc69, ss, sd, zI, qG, zG, zH, St.get, qE, qF, qB, zD, norm, look, zF, qA, qI, St.alloc, St.drop, zA, part, zC, depth, qD, ↓reduceIte, Nat.reduceBEq, Nat.reduceAdd, Nat.reduceSub, Nat.reduceMul, Nat.reduceEqDiff, Nat.reduceLeDiff, Nat.reduceLT, qJ, qK, qL, qM, qN, qO, qP, qQ, qR, zJ, qS, qC, qT, evSlice0, qV, qW, qX, qY, qZ, zK, fixed, zL, wit, Option.isSome_some, qH, evSliceP, evPre, St.with, zE, Array.size, te, einl, inls, efr]
  · have g1 : cs[i]? = some cs[i] := List.getElem?_eq_getElem a1
    have g2 : w[i]? = some w[i] := List.getElem?_eq_getElem (by omega)
    have e1 := ls i _ _ g1 g2
    have b1 := mul_in (hst cs[i] (List.getElem_mem _)) (hw' w[i] (List.getElem_mem _))
    have b5 := hs (i + 1) (by omega)
    have w1 : IntKind.i64.wrap (cs[i].st * w[i]) = cs[i].st * w[i] := wrap_in (by omega)
    have w4 : IntKind.i64.wrap (le i - cs[i].st * w[i]) = le (i + 1) := by rw [← e1, wrap_in (by omega)]
    have a4 : (i : Int) < w.length := by omega
    clear e1 b1 b5 hv hs
    generalize cs[i] = c at *
    generalize w[i] = n at *
    simp (maxSteps := 1000000) (implicitDefEqProofs := false) only [a1, a2, a3, a4, g1, g2, w1, w4, encCem, vI, evRegion_st hk2, Int.natCast_nonneg, Int.toNat_natCast, List.getElem?_map, List.length_map, ss, sd, zI, qG, zG, zH, St.get, qE, qF, qB, zD, norm, look, zF, qA, qI, St.alloc, St.drop, zA, part, zC, depth, qD, ↓reduceIte, Nat.reduceBEq, Nat.reduceAdd, Nat.reduceSub, Nat.reduceMul, Nat.reduceEqDiff, Nat.reduceLeDiff, Nat.reduceLT, qJ, qK, qL, qM, qN, qO, qP, qQ, qR, zJ, qS, qC, qT, evSlice0, qV, qW, qX, qY, qZ, zK, fixed, zL, wit, Option.isSome_some, qH, evSliceP, evPre, St.with, zE, Array.size, te, einl, inls, efr]
    (first | exact ⟨(), trivial⟩ | refine ⟨(), ?_, trivial⟩ | skip)
end Go.AM.E

