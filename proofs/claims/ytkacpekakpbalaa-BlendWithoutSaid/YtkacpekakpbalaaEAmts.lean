/-
Amounts: which are right, their cost and properties.
-/
import Derived.Test.YtkacpekakpbalaaEMake
set_option linter.unusedVariables false
set_option linter.unusedSimpArgs false
set_option maxRecDepth 20000

namespace Go.AM.E
open Go Go.AM Go.Proofs

structure Amts where
  den : Int
  x : List Int
def encAmts (a : Amts) : V := .agg [.int .i64 a.den, .sl false (a.x.map vI)]
def rightM (b : Blend) (a : Amts) : Bool := inB a.den 1 1048576 && decide (a.x.length = b.cs.length) && allB a.x 0 1073741824
def RightA (b : Blend) (a : Amts) : Prop := (1 ≤ a.den ∧ a.den ≤ 1048576) ∧ a.x.length = b.cs.length ∧ ∀ n ∈ a.x, 0 ≤ n ∧ n ≤ 1073741824
theorem rightM_iff {b : Blend} {a : Amts} : rightM b a = true ↔ RightA b a := by
  unfold rightM RightA
  simp only [Bool.and_eq_true, inB_iff, allB_iff, decide_eq_true_eq, and_assoc]
theorem eqI_true {a b : Nat} (h : a = b) : (((a : Nat) : Int) == (b : Int)) = true := by rw [h]; exact beq_self_eq_true _
theorem eqI_false {a b : Nat} (h : ¬ a = b) : (((a : Nat) : Int) == (b : Int)) = false := by simp; omega

set_option maxHeartbeats 4000000 in
theorem c63 (b : Blend) (a : Amts) (hb : b.cs.length ≤ 1000000000) : (orcω E XS).call 63 [encBlend b, encAmts a] = some (.bool (rightM b a)) := by
  refine call_of rfl fn63 rfl ?_
  have k1 := c47 a.den 1 1048576
  have k2 := c48 a.x 0 1073741824
  obtain ⟨tot, cs, lo, hi⟩ := b
  obtain ⟨den, x⟩ := a
  unfold encBlend encAmts rightM
  dsimp only at *
  cases h1 : inB den 1 1048576 with
  | false =>
    rw [h1] at k1
    simp (maxSteps := 1000000) (implicitDefEqProofs := false) only [Try.ntmps63, Try.results63, efc63, k1, Bool.false_and, ss, sd, zI, qG, zG, zH, St.get, qE, qF, qB, zD, norm, look, zF, qA, qI, St.alloc, St.drop, zA, part, zC, depth, qD, ↓reduceIte, Nat.reduceBEq, Nat.reduceAdd, Nat.reduceSub, Nat.reduceMul, Nat.reduceEqDiff, Nat.reduceLeDiff, Nat.reduceLT, qJ, qK, qL, qM, qN, qO, qP, qQ, qR, zJ, qS, qC, qT, evSlice0, qV, qW, qX, qY, qZ, zK, fixed, zL, wit, Option.isSome_some, qH, evSliceP, evPre, St.with, zE, Array.size, te, einl, inls, efr]
  | true =>
    rw [h1] at k1
    by_cases h2 : x.length = cs.length
    · have q1 := eqI_true h2
      have k3 := k2 (by omega)
      simp (maxSteps := 1000000) (implicitDefEqProofs := false) only [Try.ntmps63, Try.results63, efc63, k1, q1, k3, h2, decide_true, Bool.true_and, List.length_map, ss, sd, zI, qG, zG, zH, St.get, qE, qF, qB, zD, norm, look, zF, qA, qI, St.alloc, St.drop, zA, part, zC, depth, qD, ↓reduceIte, Nat.reduceBEq, Nat.reduceAdd, Nat.reduceSub, Nat.reduceMul, Nat.reduceEqDiff, Nat.reduceLeDiff, Nat.reduceLT, qJ, qK, qL, qM, qN, qO, qP, qQ, qR, zJ, qS, qC, qT, evSlice0, qV, qW, qX, qY, qZ, zK, fixed, zL, wit, Option.isSome_some, qH, evSliceP, evPre, St.with, zE, Array.size, te, einl, inls, efr]
    · have q1 := eqI_false h2
      simp (maxSteps := 1000000) (implicitDefEqProofs := false) only [Try.ntmps63, Try.results63, efc63, k1, q1, h2, decide_false, Bool.true_and, Bool.false_and, List.length_map, ss, sd, zI, qG, zG, zH, St.get, qE, qF, qB, zD, norm, look, zF, qA, qI, St.alloc, St.drop, zA, part, zC, depth, qD, ↓reduceIte, Nat.reduceBEq, Nat.reduceAdd, Nat.reduceSub, Nat.reduceMul, Nat.reduceEqDiff, Nat.reduceLeDiff, Nat.reduceLT, qJ, qK, qL, qM, qN, qO, qP, qQ, qR, zJ, qS, qC, qT, evSlice0, qV, qW, qX, qY, qZ, zK, fixed, zL, wit, Option.isSome_some, qH, evSliceP, evPre, St.with, zE, Array.size, te, einl, inls, efr]
def cem0 : Cem := ⟨0, 0, []⟩
def dotTo (f : Cem → Int) (cs : List Cem) (xs : List Int) : Nat → Int
  | 0 => 0
  | k + 1 => dotTo f cs xs k + f (cs.getD k cem0) * xs.getD k 0
theorem dot_step {f : Cem → Int} {cs : List Cem} {xs : List Int} {k : Nat} {c : Cem} {n : Int} (hc : cs[k]? = some c) (hn : xs[k]? = some n) : dotTo f cs xs (k + 1) = dotTo f cs xs k + f c * n := by
  show _ + _ = _
  rw [List.getD_eq_getElem?_getD, hc, List.getD_eq_getElem?_getD, hn]
  rfl
theorem mul_in {a b A B : Int} (h1 : 0 ≤ a ∧ a ≤ A) (h2 : 0 ≤ b ∧ b ≤ B) : 0 ≤ a * b ∧ a * b ≤ A * B :=
  ⟨Int.mul_nonneg h1.1 h2.1, Int.mul_le_mul h1.2 h2.2 h2.1 (by omega)⟩
theorem dot_in {f : Cem → Int} {cs : List Cem} {xs : List Int} (hf : ∀ c ∈ cs, 0 ≤ f c ∧ f c ≤ 1000) (hx : ∀ n ∈ xs, 0 ≤ n ∧ n ≤ 1073741824) (hl : xs.length = cs.length) :
    ∀ k : Nat, k ≤ cs.length → 0 ≤ dotTo f cs xs k ∧ dotTo f cs xs k ≤ (k : Int) * 1073741824000
  | 0, _ => by simp [dotTo]
  | k + 1, h => by
    have ih := dot_in hf hx hl k (by omega)
    have hc : cs[k]? = some cs[k] := List.getElem?_eq_getElem (by omega)
    have hn : xs[k]? = some xs[k] := List.getElem?_eq_getElem (by omega)
    have b1 := mul_in (hf cs[k] (List.getElem_mem _)) (hx xs[k] (List.getElem_mem _))
    rw [dot_step hc hn]
    omega
def costM (b : Blend) (xs : List Int) : Int := dotTo (·.co) b.cs xs b.cs.length
def propM (b : Blend) (xs : List Int) (k : Nat) : Int := dotTo (fun c => c.ps.getD k 0) b.cs xs b.cs.length
theorem cost_f {b : Blend} (hb : Valid b) : ∀ c ∈ b.cs, 0 ≤ c.co ∧ c.co ≤ 1000 := fun c hc => (cemOk_iff.1 (hb.2.2.2.2.2.2.2 c hc)).2.1
theorem prop_f {b : Blend} (hb : Valid b) (k : Nat) : ∀ c ∈ b.cs, 0 ≤ c.ps.getD k 0 ∧ c.ps.getD k 0 ≤ 20 := fun c hc => by
  have h := (cemOk_iff.1 (hb.2.2.2.2.2.2.2 c hc)).2.2.2
  rw [List.getD_eq_getElem?_getD]
  cases hk : c.ps[k]? with
  | none => exact ⟨Int.le_refl 0, by decide⟩
  | some p => exact h p (List.mem_of_getElem? hk)
theorem prop_f' {b : Blend} (hb : Valid b) (k : Nat) : ∀ c ∈ b.cs, 0 ≤ c.ps.getD k 0 ∧ c.ps.getD k 0 ≤ 1000 := fun c hc => by have := prop_f hb k c hc; omega

theorem okT66 : okCode (Try.f66.body.getD .skip) = true := by decide +kernel
set_option maxRecDepth 20000 in
set_option maxHeartbeats 4000000 in
theorem c66 (b : Blend) (a : Amts) (hb : Valid b) (ha : RightA b a) : (orcω E XS).call 66 [encBlend b, encAmts a] = some (.int .i64 (costM b a.x)) := by
  refine call_of rfl fn66 rfl ?_
  have hok := okT66
  simp only [Try.f66, Option.getD_some, okCode, Bool.and_eq_true, Bool.and_true, Bool.true_and] at hok
  have hf := cost_f hb
  have hl := hb.2.1
  obtain ⟨h1, h2, h3⟩ := ha
  unfold costM
  obtain ⟨tot, cs, lo, hi⟩ := b
  obtain ⟨den, x⟩ := a
  clear hb
  unfold encBlend encAmts
  dsimp only at *
  have hin := dot_in (f := (·.co)) hf h3 h2
  simp (maxSteps := 1000000) (implicitDefEqProofs := false) only [Try.ntmps66, Try.results66, efc66, fc66, List.length_map, ss, sd, zI, qG, zG, zH, St.get, qE, qF, qB, zD, norm, look, zF, qA, qI, St.alloc, St.drop, zA, part, zC, depth, qD, ↓reduceIte, Nat.reduceBEq, Nat.reduceAdd, Nat.reduceSub, Nat.reduceMul, Nat.reduceEqDiff, Nat.reduceLeDiff, Nat.reduceLT, qJ, qK, qL, qM, qN, qO, qP, qQ, qR, zJ, qS, qC, qT, evSlice0, qV, qW, qX, qY, qZ, zK, fixed, zL, wit, Option.isSome_some, qH, evSliceP, evPre, St.with, zE, Array.size, te, einl, inls, efr]
  generalize hr : loopAt _ _ _ _ _ _ = r; revert r
  refine loop_nat cs.length (fun i _ => [(5, .int .i64 (dotTo (·.co) cs x i)), (11, .int .i64 (i : Nat))]) (fun _ _ => []) (fun _ (_ : Unit) => True) () (by omega) (by simp (maxSteps := 1000000) (implicitDefEqProofs := false) only [dotTo, Int.natCast_zero, ss, sd, zI, qG, zG, zH, St.get, qE, qF, qB, zD, norm, look, zF, qA, qI, St.alloc, St.drop, zA, part, zC, depth, qD, ↓reduceIte, Nat.reduceBEq, Nat.reduceAdd, Nat.reduceSub, Nat.reduceMul, Nat.reduceEqDiff, Nat.reduceLeDiff, Nat.reduceLT, qJ, qK, qL, qM, qN, qO, qP, qQ, qR, zJ, qS, qC, qT, evSlice0, qV, qW, qX, qY, qZ, zK, fixed, zL, wit, Option.isSome_some, qH, evSliceP, evPre, St.with, zE, Array.size, te, einl, inls, efr]) trivial (fun _ _ => ?_) (fun i _ _ a1 a2 a3 => ?_)
  · simp (maxSteps := 1000000) (implicitDefEqProofs := false) only [Int.lt_irrefl, Try.ntmps66, Try.results66, efc66, fc66, ss, sd, zI, qG, zG, zH, St.get, qE, qF, qB, zD, norm, look, zF, qA, qI, St.alloc, St.drop, zA, part, zC, depth, qD, ↓reduceIte, Nat.reduceBEq, Nat.reduceAdd, Nat.reduceSub, Nat.reduceMul, Nat.reduceEqDiff, Nat.reduceLeDiff, Nat.reduceLT, qJ, qK, qL, qM, qN, qO, qP, qQ, qR, zJ, qS, qC, qT, evSlice0, qV, qW, qX, qY, qZ, zK, fixed, zL, wit, Option.isSome_some, qH, evSliceP, evPre, St.with, zE, Array.size, te, einl, inls, efr]
  · have hc : cs[i]? = some cs[i] := List.getElem?_eq_getElem a1
    have hn : x[i]? = some x[i] := List.getElem?_eq_getElem (by omega)
    have e1 := dot_step (f := (·.co)) hc hn
    have b1 := mul_in (hf cs[i] (List.getElem_mem _)) (h3 x[i] (List.getElem_mem _))
    have b2 := hin i (by omega)
    have b3 := hin (i + 1) (by omega)
    have w1 : IntKind.i64.wrap (cs[i].co * x[i]) = cs[i].co * x[i] := wrap_in (by omega)
    have w2 : IntKind.i64.wrap (dotTo (·.co) cs x i + cs[i].co * x[i]) = dotTo (·.co) cs x (i + 1) := by rw [← e1, wrap_in (by omega)]
    have a4 : (i : Int) < x.length := by omega
    clear e1 b1 b2 b3
    generalize cs[i] = c at *
    generalize x[i] = n at *
    simp (maxSteps := 1000000) (implicitDefEqProofs := false) only [a1, a2, a3, a4, hc, hn, w1, w2, encCem, vI, evRegion_st hok, Int.natCast_nonneg, Int.toNat_natCast, List.getElem?_map, List.length_map, ss, sd, zI, qG, zG, zH, St.get, qE, qF, qB, zD, norm, look, zF, qA, qI, St.alloc, St.drop, zA, part, zC, depth, qD, ↓reduceIte, Nat.reduceBEq, Nat.reduceAdd, Nat.reduceSub, Nat.reduceMul, Nat.reduceEqDiff, Nat.reduceLeDiff, Nat.reduceLT, qJ, qK, qL, qM, qN, qO, qP, qQ, qR, zJ, qS, qC, qT, evSlice0, qV, qW, qX, qY, qZ, zK, fixed, zL, wit, Option.isSome_some, qH, evSliceP, evPre, St.with, zE, Array.size, te, einl, inls, efr]
    (first | exact ⟨(), trivial⟩ | refine ⟨(), ?_, trivial⟩ | skip)

theorem okT70 : okCode (Try.f70.body.getD .skip) = true := by decide +kernel
set_option maxRecDepth 20000 in
set_option maxHeartbeats 4000000 in
theorem c70 (b : Blend) (a : Amts) (hb : Valid b) (ha : RightA b a) (k : Nat) (hk : k < b.lo.length) : (orcω E XS).call 70 [encBlend b, encAmts a, .int .i64 k] = some (.int .i64 (propM b a.x k)) := by
  refine call_of rfl fn70 rfl ?_
  have hok := okT70
  simp only [Try.f70, Option.getD_some, okCode, Bool.and_eq_true, Bool.and_true, Bool.true_and] at hok
  have hf := prop_f' hb k
  have hl := hb.2.1
  have hcl : ∀ c ∈ b.cs, k < c.ps.length := fun c hc => by have := (cemOk_iff.1 (hb.2.2.2.2.2.2.2 c hc)).2.2.1; omega
  have hk3 := hb.2.2.1
  obtain ⟨h1, h2, h3⟩ := ha
  unfold propM
  obtain ⟨tot, cs, lo, hi⟩ := b
  obtain ⟨den, x⟩ := a
  clear hb
  unfold encBlend encAmts
  dsimp only at *
  have hin := dot_in hf h3 h2
  simp (maxSteps := 1000000) (implicitDefEqProofs := false) only [Try.ntmps70, Try.results70, efc70, fc70, List.length_map, ss, sd, zI, qG, zG, zH, St.get, qE, qF, qB, zD, norm, look, zF, qA, qI, St.alloc, St.drop, zA, part, zC, depth, qD, ↓reduceIte, Nat.reduceBEq, Nat.reduceAdd, Nat.reduceSub, Nat.reduceMul, Nat.reduceEqDiff, Nat.reduceLeDiff, Nat.reduceLT, qJ, qK, qL, qM, qN, qO, qP, qQ, qR, zJ, qS, qC, qT, evSlice0, qV, qW, qX, qY, qZ, zK, fixed, zL, wit, Option.isSome_some, qH, evSliceP, evPre, St.with, zE, Array.size, te, einl, inls, efr]
  generalize hr : loopAt _ _ _ _ _ _ = r; revert r
  refine loop_nat cs.length (fun i _ => [(7, .int .i64 (dotTo (fun c => c.ps.getD k 0) cs x i)), (13, .int .i64 (i : Nat))]) (fun _ _ => []) (fun _ (_ : Unit) => True) () (by omega) (by simp (maxSteps := 1000000) (implicitDefEqProofs := false) only [dotTo, Int.natCast_zero, ss, sd, zI, qG, zG, zH, St.get, qE, qF, qB, zD, norm, look, zF, qA, qI, St.alloc, St.drop, zA, part, zC, depth, qD, ↓reduceIte, Nat.reduceBEq, Nat.reduceAdd, Nat.reduceSub, Nat.reduceMul, Nat.reduceEqDiff, Nat.reduceLeDiff, Nat.reduceLT, qJ, qK, qL, qM, qN, qO, qP, qQ, qR, zJ, qS, qC, qT, evSlice0, qV, qW, qX, qY, qZ, zK, fixed, zL, wit, Option.isSome_some, qH, evSliceP, evPre, St.with, zE, Array.size, te, einl, inls, efr]) trivial (fun _ _ => ?_) (fun i _ _ a1 a2 a3 => ?_)
  · simp (maxSteps := 1000000) (implicitDefEqProofs := false) only [Int.lt_irrefl, Try.ntmps70, Try.results70, efc70, fc70, ss, sd, zI, qG, zG, zH, St.get, qE, qF, qB, zD, norm, look, zF, qA, qI, St.alloc, St.drop, zA, part, zC, depth, qD, ↓reduceIte, Nat.reduceBEq, Nat.reduceAdd, Nat.reduceSub, Nat.reduceMul, Nat.reduceEqDiff, Nat.reduceLeDiff, Nat.reduceLT, qJ, qK, qL, qM, qN, qO, qP, qQ, qR, zJ, qS, qC, qT, evSlice0, qV, qW, qX, qY, qZ, zK, fixed, zL, wit, Option.isSome_some, qH, evSliceP, evPre, St.with, zE, Array.size, te, einl, inls, efr]
  · have hc : cs[i]? = some cs[i] := List.getElem?_eq_getElem a1
    have hn : x[i]? = some x[i] := List.getElem?_eq_getElem (by omega)
    have hkl := hcl cs[i] (List.getElem_mem _)
    have hp : cs[i].ps[k]? = some (cs[i].ps.getD k 0) := by rw [List.getD_eq_getElem?_getD, List.getElem?_eq_getElem hkl]; rfl
    have e1 := dot_step (f := (fun c => c.ps.getD k 0)) hc hn
    have b1 := mul_in (hf cs[i] (List.getElem_mem _)) (h3 x[i] (List.getElem_mem _))
    have b2 := hin i (by omega)
    have b3 := hin (i + 1) (by omega)
    have w1 : IntKind.i64.wrap (cs[i].ps.getD k 0 * x[i]) = cs[i].ps.getD k 0 * x[i] := wrap_in (by omega)
    have w2 : IntKind.i64.wrap (dotTo (fun c => c.ps.getD k 0) cs x i + cs[i].ps.getD k 0 * x[i]) = dotTo (fun c => c.ps.getD k 0) cs x (i + 1) := by rw [← e1, wrap_in (by omega)]
    have a4 : (i : Int) < x.length := by omega
    have a5 : (k : Int) < cs[i].ps.length := by omega
    clear e1 b1 b2 b3
    generalize cs[i] = c at *
    generalize x[i] = n at *
    generalize c.ps.getD k 0 = p at *
    simp (maxSteps := 1000000) (implicitDefEqProofs := false) only [a1, a2, a3, a4, a5, hc, hn, hp, w1, w2, encCem, vI, evRegion_st hok, Int.natCast_nonneg, Int.toNat_natCast, List.getElem?_map, List.length_map, ss, sd, zI, qG, zG, zH, St.get, qE, qF, qB, zD, norm, look, zF, qA, qI, St.alloc, St.drop, zA, part, zC, depth, qD, ↓reduceIte, Nat.reduceBEq, Nat.reduceAdd, Nat.reduceSub, Nat.reduceMul, Nat.reduceEqDiff, Nat.reduceLeDiff, Nat.reduceLT, qJ, qK, qL, qM, qN, qO, qP, qQ, qR, zJ, qS, qC, qT, evSlice0, qV, qW, qX, qY, qZ, zK, fixed, zL, wit, Option.isSome_some, qH, evSliceP, evPre, St.with, zE, Array.size, te, einl, inls, efr]
    (first | exact ⟨(), trivial⟩ | refine ⟨(), ?_, trivial⟩ | skip)

end Go.AM.E

