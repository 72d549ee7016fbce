/-
The search for amounts or a proof (blend.Solve, blend.Least).
-/
import Derived.Test.YtkacpekakpbalaaERay
set_option linter.unusedVariables false
set_option linter.unusedSimpArgs false
set_option maxRecDepth 20000

namespace Go.AM.E
open Go Go.AM Go.Proofs

structure Out where
  kind : Int
  a : Amts
  p : Pr
def a0 : Amts := ⟨0, []⟩
def p0 : Pr := ⟨0, 0, [], [], []⟩
def encOut (o : Out) (e : Int) : V := .tup [.agg [.int .i64 o.kind, .int .i64 o.a.den, .sl true (o.a.x.map vI), .int .i64 o.p.den, .int .i64 o.p.y, .sl true (o.p.u.map vI), .sl true (o.p.v.map vI), .sl true (o.p.w.map vI)], .int .i64 e]
def bestX (b : Blend) (x : Bs) : Option Amts := bestM b x (valueM b (dualM b x))
def outM (b : Blend) : Out := match (basesM b).findSome? fun x => (bestX b x).map fun a => (a, dualM b x) with
  | some (a, p) => ⟨1, a, p⟩
  | none => match (basesM b).findSome? (proofM b) with
    | some p => ⟨2, a0, p⟩
    | none => ⟨2, a0, p0⟩
theorem out_best {b : Blend} {pre post : List Bs} {x : Bs} {a : Amts} (hp : basesM b = pre ++ x :: post) (h : ∀ y ∈ pre, bestX b y = none) (hx : bestX b x = some a) : outM b = ⟨1, a, dualM b x⟩ := by
  unfold outM
  rw [hp, fsl_some (F := fun x => (bestX b x).map fun a => (a, dualM b x)) (fun y hy => by rw [h y hy]; rfl) (show (bestX b x).map (fun a => (a, dualM b x)) = some (a, dualM b x) by rw [hx]; rfl)]
theorem out_proof {b : Blend} {pre post : List Bs} {x : Bs} {p : Pr} (h1 : ∀ y ∈ basesM b, bestX b y = none) (hp : basesM b = pre ++ x :: post) (h : ∀ y ∈ pre, proofM b y = none) (hx : proofM b x = some p) : outM b = ⟨2, a0, p⟩ := by
  unfold outM
  rw [fsl_none (F := fun x => (bestX b x).map fun a => (a, dualM b x)) (fun y hy => by rw [h1 y hy]; rfl)]
  dsimp only
  rw [hp, fsl_some h hx]
theorem out_none {b : Blend} (h1 : ∀ y ∈ basesM b, bestX b y = none) (h : ∀ y ∈ basesM b, proofM b y = none) : outM b = ⟨2, a0, p0⟩ := by
  unfold outM
  rw [fsl_none (F := fun x => (bestX b x).map fun a => (a, dualM b x)) (fun y hy => by rw [h1 y hy]; rfl)]
  dsimp only
  rw [fsl_none h]
def solveR (b : Blend) : Out × Int := if errV b = 0 then (outM b, 0) else (⟨0, a0, p0⟩, 1)
theorem bases_len {b : Blend} (hb : Valid b) : (basesM b).length ≤ 1000 := by
  have h := outer_len hb.2.1.2 (2 ^ (b.lo.length + 1))
  rw [outer_all] at h
  have : 2 ^ (b.lo.length + 1) ≤ 2 ^ 4 := Nat.pow_le_pow_right (by decide) (by have := hb.2.2.1; omega)
  omega
theorem okT20 : okCode (Try.f20.body.getD .skip) = true := by decide +kernel
set_option maxRecDepth 20000 in
set_option maxHeartbeats 16000000 in
theorem c20 (b : Blend) : (orcω E XS).call 20 [encBlend b] = some (encOut (solveR b).1 (solveR b).2) := by
  refine call_of rfl fn20 rfl ?_
  have hok := okT20
  simp only [Try.f20, Option.getD_some, okCode, Bool.and_eq_true, Bool.and_true, Bool.true_and] at hok
  have k15 := c15 b
  unfold solveR
  rcases errV_cases b with he | he
  rotate_left
  · rw [he] at k15 ⊢
    obtain ⟨tot, cs, lo, up⟩ := b
    simp only [encBlend] at k15 ⊢
    simp (maxSteps := 1000000) (implicitDefEqProofs := false) only [Try.ntmps20, Try.results20, efc20, fc20, k15, q_one, encOut, a0, p0, show ¬ (1 : Int) = 0 by decide, if_false, List.map_nil, ss, sd, zI, qG, zG, zH, St.get, qE, qF, qB, zD, norm, look, zF, qA, qI, St.alloc, St.drop, zA, part, zC, depth, qD, ↓reduceIte, Nat.reduceBEq, Nat.reduceAdd, Nat.reduceSub, Nat.reduceMul, Nat.reduceEqDiff, Nat.reduceLeDiff, Nat.reduceLT, qJ, qK, qL, qM, qN, qO, qP, qQ, qR, zJ, qS, qC, qT, evSlice0, qV, qW, qX, qY, qZ, zK, fixed, zL, wit, Option.isSome_some, qH, evSliceP, evPre, St.with, zE, Array.size, te, einl, inls, efr]
  rw [he] at k15 ⊢
  rw [if_pos rfl]
  have hb := errV_zero he
  have k55 := c55 b hb
  have hbl := bases_len hb
  have k56 := fun x (hx : x ∈ basesM b) => c56 b hb x (mem_bases.1 hx)
  have k57 : ∀ x, x ∈ basesM b → (orcω E XS).call 57 [encBasisA b x, encPr (dualM b x)] = some (encAmO (bestX b x)) := fun x hx => c57 b hb x (mem_bases.1 hx) (dualM b x) (dual_right hb (mem_bases.1 hx)).fine
  have k58 := fun x (hx : x ∈ basesM b) => c58 b hb x (mem_bases.1 hx)
  have ob := fun pre post x a => out_best (b := b) (pre := pre) (post := post) (x := x) (a := a)
  have op := fun pre post x p => out_proof (b := b) (pre := pre) (post := post) (x := x) (p := p)
  have on := out_none (b := b)
  have eB : ∀ x, encBasis b x = .agg [.int .i64 b.tot, .sl false (b.cs.map encCem), .sl false (b.lo.map vI), .sl false (b.hi.map vI), .sl false ((memI x.rs).map vI), .sl false ((memI x.cs).map vI), .int .i64 (detB b x), .clo 89 [.sl true ((matB b x).map encI)] []] := fun _ => rfl
  unfold encBasisA at k56 k57 k58
  generalize outM b = om at *
  generalize bestX b = bX at *
  generalize proofM b = pM at *
  generalize basesM b = B at *
  generalize dualM b = dM at *
  generalize detB b = dB at *
  generalize matB b = mB at *
  generalize encBasis b = eb at *
  clear he hb
  obtain ⟨tot, cs, lo, up⟩ := b
  simp only [encBlend, encPr, encPrT] at k15 k55 k56 k57 ⊢
  dsimp only at *
  simp (maxSteps := 1000000) (implicitDefEqProofs := false) only [Try.ntmps20, Try.results20, efc20, fc20, k15, k55, bne_self_eq_false, List.length_map, ss, sd, zI, qG, zG, zH, St.get, qE, qF, qB, zD, norm, look, zF, qA, qI, St.alloc, St.drop, zA, part, zC, depth, qD, ↓reduceIte, Nat.reduceBEq, Nat.reduceAdd, Nat.reduceSub, Nat.reduceMul, Nat.reduceEqDiff, Nat.reduceLeDiff, Nat.reduceLT, qJ, qK, qL, qM, qN, qO, qP, qQ, qR, zJ, qS, qC, qT, evSlice0, qV, qW, qX, qY, qZ, zK, fixed, zL, wit, Option.isSome_some, qH, evSliceP, evPre, St.with, zE, Array.size, te, einl, inls, efr]
  generalize hr : loopAt _ _ _ _ _ _ = r; revert r
  refine loop_list B (fun pre _ => [(25, .int .i64 pre.length)]) (fun _ _ => []) (fun pre (_ : Unit) => ∀ y ∈ pre, bX y = none) () (by omega) (by simp (maxSteps := 1000000) (implicitDefEqProofs := false) only [ss, sd, zI, qG, zG, zH, St.get, qE, qF, qB, zD, norm, look, zF, qA, qI, St.alloc, St.drop, zA, part, zC, depth, qD, ↓reduceIte, Nat.reduceBEq, Nat.reduceAdd, Nat.reduceSub, Nat.reduceMul, Nat.reduceEqDiff, Nat.reduceLeDiff, Nat.reduceLT, qJ, qK, qL, qM, qN, qO, qP, qQ, qR, zJ, qS, qC, qT, evSlice0, qV, qW, qX, qY, qZ, zK, fixed, zL, wit, Option.isSome_some, qH, evSliceP, evPre, St.with, zE, Array.size, te, einl, inls, efr]) (fun _ h => by cases h) (fun _ hI => ?_) (fun pre x post _ hp hI g1 g2 g3 g4 => ?_)
  rotate_left
  · have hx : x ∈ B := by rw [hp]; simp
    have k6 := k56 x hx
    have k7 := k57 x hx
    have e1 := eB x
    cases hbx : bX x with
    | none =>
      rw [hbx] at k7
      simp only [encAmO] at k7
      simp (maxSteps := 1000000) (implicitDefEqProofs := false) only [g1, g2, g3, g4, e1, k6, k7, Int.natCast_nonneg, Int.toNat_natCast, List.getElem?_map, List.length_map, ss, sd, zI, qG, zG, zH, St.get, qE, qF, qB, zD, norm, look, zF, qA, qI, St.alloc, St.drop, zA, part, zC, depth, qD, ↓reduceIte, Nat.reduceBEq, Nat.reduceAdd, Nat.reduceSub, Nat.reduceMul, Nat.reduceEqDiff, Nat.reduceLeDiff, Nat.reduceLT, qJ, qK, qL, qM, qN, qO, qP, qQ, qR, zJ, qS, qC, qT, evSlice0, qV, qW, qX, qY, qZ, zK, fixed, zL, wit, Option.isSome_some, qH, evSliceP, evPre, St.with, zE, Array.size, te, einl, inls, efr]
      refine ⟨(), fun y hy => ?_⟩
      rcases List.mem_append.1 hy with hy | hy
      · exact hI y hy
      · have : y = x := by simpa using hy
        rw [this]; exact hbx
    | some a =>
      rw [hbx] at k7
      simp only [encAmO] at k7
      rw [ob _ _ _ _ hp hI hbx]
      simp (maxSteps := 1000000) (implicitDefEqProofs := false) only [g1, g2, g3, g4, e1, k6, k7, encOut, Int.natCast_nonneg, Int.toNat_natCast, List.getElem?_map, List.length_map, Try.ntmps20, Try.results20, efc20, fc20, ss, sd, zI, qG, zG, zH, St.get, qE, qF, qB, zD, norm, look, zF, qA, qI, St.alloc, St.drop, zA, part, zC, depth, qD, ↓reduceIte, Nat.reduceBEq, Nat.reduceAdd, Nat.reduceSub, Nat.reduceMul, Nat.reduceEqDiff, Nat.reduceLeDiff, Nat.reduceLT, qJ, qK, qL, qM, qN, qO, qP, qQ, qR, zJ, qS, qC, qT, evSlice0, qV, qW, qX, qY, qZ, zK, fixed, zL, wit, Option.isSome_some, qH, evSliceP, evPre, St.with, zE, Array.size, te, einl, inls, efr]
  simp (maxSteps := 1000000) (implicitDefEqProofs := false) only [Int.lt_irrefl, List.length_map, ss, sd, zI, qG, zG, zH, St.get, qE, qF, qB, zD, norm, look, zF, qA, qI, St.alloc, St.drop, zA, part, zC, depth, qD, ↓reduceIte, Nat.reduceBEq, Nat.reduceAdd, Nat.reduceSub, Nat.reduceMul, Nat.reduceEqDiff, Nat.reduceLeDiff, Nat.reduceLT, qJ, qK, qL, qM, qN, qO, qP, qQ, qR, zJ, qS, qC, qT, evSlice0, qV, qW, qX, qY, qZ, zK, fixed, zL, wit, Option.isSome_some, qH, evSliceP, evPre, St.with, zE, Array.size, te, einl, inls, efr]
  generalize hr : loopAt _ _ _ _ _ _ = r; revert r
  refine loop_list B (fun pre _ => [(44, .int .i64 pre.length)]) (fun _ _ => []) (fun pre (_ : Unit) => ∀ y ∈ pre, pM y = none) () (by omega) (by simp (maxSteps := 1000000) (implicitDefEqProofs := false) only [ss, sd, zI, qG, zG, zH, St.get, qE, qF, qB, zD, norm, look, zF, qA, qI, St.alloc, St.drop, zA, part, zC, depth, qD, ↓reduceIte, Nat.reduceBEq, Nat.reduceAdd, Nat.reduceSub, Nat.reduceMul, Nat.reduceEqDiff, Nat.reduceLeDiff, Nat.reduceLT, qJ, qK, qL, qM, qN, qO, qP, qQ, qR, zJ, qS, qC, qT, evSlice0, qV, qW, qX, qY, qZ, zK, fixed, zL, wit, Option.isSome_some, qH, evSliceP, evPre, St.with, zE, Array.size, te, einl, inls, efr]) (fun _ h => by cases h) (fun _ hJ => ?_) (fun pre x post _ hp hJ g1 g2 g3 g4 => ?_)
  · rw [on hI hJ]
    simp (maxSteps := 1000000) (implicitDefEqProofs := false) only [Int.lt_irrefl, encOut, a0, p0, List.map_nil, List.length_map, Try.ntmps20, Try.results20, efc20, fc20, ss, sd, zI, qG, zG, zH, St.get, qE, qF, qB, zD, norm, look, zF, qA, qI, St.alloc, St.drop, zA, part, zC, depth, qD, ↓reduceIte, Nat.reduceBEq, Nat.reduceAdd, Nat.reduceSub, Nat.reduceMul, Nat.reduceEqDiff, Nat.reduceLeDiff, Nat.reduceLT, qJ, qK, qL, qM, qN, qO, qP, qQ, qR, zJ, qS, qC, qT, evSlice0, qV, qW, qX, qY, qZ, zK, fixed, zL, wit, Option.isSome_some, qH, evSliceP, evPre, St.with, zE, Array.size, te, einl, inls, efr]
  · have hx : x ∈ B := by rw [hp]; simp
    have k8 := k58 x hx
    have e1 := eB x
    cases hbx : pM x with
    | none =>
      rw [hbx] at k8
      simp only [encPO] at k8
      simp (maxSteps := 1000000) (implicitDefEqProofs := false) only [g1, g2, g3, g4, e1, k8, Int.natCast_nonneg, Int.toNat_natCast, List.getElem?_map, List.length_map, ss, sd, zI, qG, zG, zH, St.get, qE, qF, qB, zD, norm, look, zF, qA, qI, St.alloc, St.drop, zA, part, zC, depth, qD, ↓reduceIte, Nat.reduceBEq, Nat.reduceAdd, Nat.reduceSub, Nat.reduceMul, Nat.reduceEqDiff, Nat.reduceLeDiff, Nat.reduceLT, qJ, qK, qL, qM, qN, qO, qP, qQ, qR, zJ, qS, qC, qT, evSlice0, qV, qW, qX, qY, qZ, zK, fixed, zL, wit, Option.isSome_some, qH, evSliceP, evPre, St.with, zE, Array.size, te, einl, inls, efr]
      refine ⟨(), fun y hy => ?_⟩
      rcases List.mem_append.1 hy with hy | hy
      · exact hJ y hy
      · have : y = x := by simpa using hy
        rw [this]; exact hbx
    | some p =>
      rw [hbx] at k8
      simp only [encPO, encPrT] at k8
      rw [op _ _ _ _ hI hp hJ hbx]
      simp (maxSteps := 1000000) (implicitDefEqProofs := false) only [g1, g2, g3, g4, e1, k8, encOut, a0, Int.natCast_nonneg, Int.toNat_natCast, List.getElem?_map, List.length_map, List.map_nil, Try.ntmps20, Try.results20, efc20, fc20, ss, sd, zI, qG, zG, zH, St.get, qE, qF, qB, zD, norm, look, zF, qA, qI, St.alloc, St.drop, zA, part, zC, depth, qD, ↓reduceIte, Nat.reduceBEq, Nat.reduceAdd, Nat.reduceSub, Nat.reduceMul, Nat.reduceEqDiff, Nat.reduceLeDiff, Nat.reduceLT, qJ, qK, qL, qM, qN, qO, qP, qQ, qR, zJ, qS, qC, qT, evSlice0, qV, qW, qX, qY, qZ, zK, fixed, zL, wit, Option.isSome_some, qH, evSliceP, evPre, St.with, zE, Array.size, te, einl, inls, efr]
end Go.AM.E

