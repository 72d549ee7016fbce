/-
Blends whose inner tags differ: the same calls.
-/
import Derived.Test.YtkacpekakpbalaaELeast
import Derived.Test.YtkacpekakpbalaaAmLow
set_option linter.unusedVariables false
set_option linter.unusedSimpArgs false
set_option maxRecDepth 20000

namespace Go.AM.E
open Go Go.AM Go.RowKit Go.Proofs

/-- The machine's outside where the tags inside of the arguments are of no account. -/
noncomputable def XL : Ext := { call := fun g vs => if [15, 18, 20, 25, 28, 29, 30, 33, 17, 16].contains g = true then (orcω E XS).call g (lowL vs) else XS.call g vs, inl := XS.inl }
theorem XL_ok : ExtOk Try.prog XL := ⟨(fun g vs r hr => by
  simp only [XL] at hr
  split at hr
  · exact (Orc.callOk E_ok XS_ok mixed hr).low
  · exact XS_ok.call _ _ _ hr), XS_ok.inl⟩
theorem cL {g : Nat} {vs us : List V} {r : V} (hg : [15, 18, 20, 25, 28, 29, 30, 33, 17, 16].contains g = true) (h : (orcω E XS).call g us = some r) (hl : lowL vs = us) : (orcω E XL).call g vs = some r := by
  refine (orcω_le 0).call _ _ _ ?_
  simp only [orc, XL, hg, if_true, hl, h]
theorem low_vI (l : List Int) : lowEL (l.map vI) = l.map vI := lowL_map (fun _ => rfl) l
theorem low_cem (t : Bool) (l : List Cem) : lowEL (l.map fun c => V.agg [.int .i64 c.st, .int .i64 c.co, .sl t (c.ps.map vI)]) = l.map encCem := lowL_map (fun c => by simp only [lowE, lowEL, low_vI]; rfl) l
/-- A blend whose properties carry a tag. -/
def encBlendT (t : Bool) (b : Blend) : V := .agg [.int .i64 b.tot, .sl false (b.cs.map fun c => V.agg [.int .i64 c.st, .int .i64 c.co, .sl t (c.ps.map vI)]), .sl false (b.lo.map vI), .sl false (b.hi.map vI)]
theorem low_blend (t : Bool) (b : Blend) : low (encBlendT t b) = encBlend b := by
  unfold encBlendT encBlend
  simp only [low, lowL, low_vI, low_cem]
theorem encBlendT_false (b : Blend) : encBlendT false b = encBlend b := rfl
theorem low_amts (a : Amts) : low (encAmts a) = encAmts a := by unfold encAmts; simp only [low, lowL, low_vI]
theorem low_pr (p : Pr) : low (encPr p) = encPr p := by unfold encPr; simp only [low, lowL, low_vI]
theorem l20 (t : Bool) (b : Blend) : (orcω E XL).call 20 [encBlendT t b] = some (encOut (solveR b).1 (solveR b).2) := cL rfl (c20 b) (by simp only [lowL, low_blend])
theorem l18 (t : Bool) (b : Blend) : (orcω E XL).call 18 [encBlendT t b] = some (encLst (leastR b)) := cL rfl (c18 b) (by simp only [lowL, low_blend])
theorem l15 (t : Bool) (b : Blend) : (orcω E XL).call 15 [encBlendT t b] = some (.int .i64 (errV b)) := cL rfl (c15 b) (by simp only [lowL, low_blend])
theorem l16 (t : Bool) (b : Blend) : (orcω E XL).call 16 [encBlendT t b] = some (.int .i64 (errV b)) := cL rfl (c16 b) (by simp only [lowL, low_blend])
theorem l25 (b : Blend) (a : Amts) : (orcω E XL).call 25 [encBlend b, encAmts a] = some (.int .i64 (checkE b a)) := cL rfl (c25 b a) (by simp only [lowL, low_amts, ← encBlendT_false, low_blend])
theorem l28 (b : Blend) (a : Amts) : (orcω E XL).call 28 [encBlend b, encAmts a] = some (encR (costR b a)) := cL rfl (c28 b a) (by simp only [lowL, low_amts, ← encBlendT_false, low_blend])
theorem l29 (b : Blend) (p : Pr) : (orcω E XL).call 29 [encBlend b, encPr p] = some (encR (boundR b p)) := cL rfl (c29 b p) (by simp only [lowL, low_pr, ← encBlendT_false, low_blend])
theorem l30 (b : Blend) (p : Pr) : (orcω E XL).call 30 [encBlend b, encPr p] = some (.bool (proofB b p)) := cL rfl (c30 b p) (by simp only [lowL, low_pr, ← encBlendT_false, low_blend])
theorem l33 (a b c d : Int) (h : Rat' (a, b)) (h' : Rat' (c, d)) : (orcω E XL).call 33 [.agg [.int .i64 a, .int .i64 b], .agg [.int .i64 c, .int .i64 d]] = some (.tup [.int .i64 (cmpI (a * d) (c * b)), .int .i64 0]) := cL rfl (c33 a b c d h h') rfl
theorem l17 : (orcω E XL).call 17 [] = some (.bool true) := cL rfl c17 rfl
end Go.AM.E
