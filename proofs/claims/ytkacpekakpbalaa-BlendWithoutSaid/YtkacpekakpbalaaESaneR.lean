/- A part of the proof: the texts ESaneH, ESaneI, ESaneJ, ESaneL, ESaneM, one after another. No condition. -/
import Derived.Test.YtkacpekakpbalaaESaneQ
import Derived.Test.YtkacpekakpbalaaESaneP
import Derived.Test.YtkacpekakpbalaaAmClone
import Derived.Test.YtkacpekakpbalaaAmR
set_option linter.unusedVariables false
set_option linter.unusedSimpArgs false
set_option maxRecDepth 20000

section
/-
Calls that the kernel has run.
-/
namespace Go.AM.E
open Go Go.AM Go.RowKit Go.Proofs

def q12 : Known := ⟨57, [.agg [.int .i64 10, .sl false [.agg [.int .i64 10, .int .i64 2, .sl true [.int .i64 4]], .agg [.int .i64 10, .int .i64 5, .sl true [.int .i64 8]]], .sl false [.int .i64 6], .sl false [.int .i64 8], .sl false [], .sl false [], .int .i64 1, .clo 89 [.sl false []] []], .agg [.int .i64 1, .int .i64 0, .sl false [.int .i64 0], .sl false [.int .i64 0], .sl false [.int .i64 0, .int .i64 0]]], .tup [.agg [.int .i64 0, .sl true []], .bool false]⟩
set_option maxRecDepth 100000 in
theorem r12 : Runs X2 q12 := by unfold Runs; decide +kernel
def q18 : Known := ⟨57, [.agg [.int .i64 10, .sl false [.agg [.int .i64 10, .int .i64 2, .sl true [.int .i64 4]], .agg [.int .i64 10, .int .i64 5, .sl true [.int .i64 8]]], .sl false [.int .i64 6], .sl false [.int .i64 8], .sl false [.int .i64 0], .sl false [.int .i64 0], .int .i64 1, .clo 89 [.sl false [.sl true [.int .i64 1]]] []], .agg [.int .i64 1, .int .i64 2, .sl false [.int .i64 0], .sl false [.int .i64 0], .sl false [.int .i64 0, .int .i64 0]]], .tup [.agg [.int .i64 0, .sl true []], .bool false]⟩
set_option maxRecDepth 100000 in
theorem r18 : Runs X2 q18 := by unfold Runs; decide +kernel
def q24 : Known := ⟨57, [.agg [.int .i64 10, .sl false [.agg [.int .i64 10, .int .i64 2, .sl true [.int .i64 4]], .agg [.int .i64 10, .int .i64 5, .sl true [.int .i64 8]]], .sl false [.int .i64 6], .sl false [.int .i64 8], .sl false [.int .i64 0], .sl false [.int .i64 1], .int .i64 1, .clo 89 [.sl false [.sl true [.int .i64 1]]] []], .agg [.int .i64 1, .int .i64 5, .sl false [.int .i64 0], .sl false [.int .i64 0], .sl false [.int .i64 3, .int .i64 0]]], .tup [.agg [.int .i64 0, .sl true []], .bool false]⟩
set_option maxRecDepth 100000 in
theorem r24 : Runs X2 q24 := by unfold Runs; decide +kernel
def q36 : Known := ⟨57, [.agg [.int .i64 10, .sl false [.agg [.int .i64 10, .int .i64 2, .sl true [.int .i64 4]], .agg [.int .i64 10, .int .i64 5, .sl true [.int .i64 8]]], .sl false [.int .i64 6], .sl false [.int .i64 8], .sl false [.int .i64 1], .sl false [.int .i64 0], .int .i64 4, .clo 89 [.sl false [.sl true [.int .i64 4]]] []], .agg [.int .i64 4, .int .i64 0, .sl false [.int .i64 2], .sl false [.int .i64 0], .sl false [.int .i64 0, .int .i64 0]]], .tup [.agg [.int .i64 0, .sl true []], .bool false]⟩
set_option maxRecDepth 100000 in
theorem r36 : Runs X2 q36 := by unfold Runs; decide +kernel
def q49 : Known := ⟨57, [.agg [.int .i64 10, .sl false [.agg [.int .i64 10, .int .i64 2, .sl true [.int .i64 4]], .agg [.int .i64 10, .int .i64 5, .sl true [.int .i64 8]]], .sl false [.int .i64 6], .sl false [.int .i64 8], .sl false [.int .i64 1], .sl false [.int .i64 1], .int .i64 8, .clo 89 [.sl false [.sl true [.int .i64 8]]] []], .agg [.int .i64 8, .int .i64 0, .sl false [.int .i64 5], .sl false [.int .i64 0], .sl false [.int .i64 4, .int .i64 0]]], .tup [.agg [.int .i64 0, .sl true []], .bool false]⟩
set_option maxRecDepth 100000 in
theorem r49 : Runs X2 q49 := by unfold Runs; decide +kernel
def q56 : Known := ⟨57, [.agg [.int .i64 10, .sl false [.agg [.int .i64 10, .int .i64 2, .sl true [.int .i64 4]], .agg [.int .i64 10, .int .i64 5, .sl true [.int .i64 8]]], .sl false [.int .i64 6], .sl false [.int .i64 8], .sl false [.int .i64 0, .int .i64 1], .sl false [.int .i64 0, .int .i64 1], .int .i64 4, .clo 89 [.sl false [.sl true [.int .i64 1, .int .i64 1], .sl true [.int .i64 4, .int .i64 8]]] []], .agg [.int .i64 4, .int .i64 (-4), .sl false [.int .i64 3], .sl false [.int .i64 0], .sl false [.int .i64 0, .int .i64 0]]], .tup [.agg [.int .i64 4, .sl true [.int .i64 20, .int .i64 20]], .bool true]⟩
set_option maxRecDepth 100000 in
theorem r56 : Runs X2 q56 := by unfold Runs; decide +kernel
def q68 : Known := ⟨57, [.agg [.int .i64 10, .sl false [.agg [.int .i64 10, .int .i64 2, .sl true [.int .i64 4]], .agg [.int .i64 4, .int .i64 5, .sl true [.int .i64 8]]], .sl false [.int .i64 6], .sl false [.int .i64 8], .sl false [], .sl false [], .int .i64 1, .clo 89 [.sl false []] []], .agg [.int .i64 1, .int .i64 0, .sl false [.int .i64 0], .sl false [.int .i64 0], .sl false [.int .i64 0, .int .i64 0]]], .tup [.agg [.int .i64 0, .sl true []], .bool false]⟩
set_option maxRecDepth 100000 in
theorem r68 : Runs X2 q68 := by unfold Runs; decide +kernel
def q75 : Known := ⟨57, [.agg [.int .i64 10, .sl false [.agg [.int .i64 10, .int .i64 2, .sl true [.int .i64 4]], .agg [.int .i64 4, .int .i64 5, .sl true [.int .i64 8]]], .sl false [.int .i64 6], .sl false [.int .i64 8], .sl false [.int .i64 0], .sl false [.int .i64 0], .int .i64 1, .clo 89 [.sl false [.sl true [.int .i64 1]]] []], .agg [.int .i64 1, .int .i64 2, .sl false [.int .i64 0], .sl false [.int .i64 0], .sl false [.int .i64 0, .int .i64 0]]], .tup [.agg [.int .i64 0, .sl true []], .bool false]⟩
set_option maxRecDepth 100000 in
theorem r75 : Runs X2 q75 := by unfold Runs; decide +kernel
def q82 : Known := ⟨57, [.agg [.int .i64 10, .sl false [.agg [.int .i64 10, .int .i64 2, .sl true [.int .i64 4]], .agg [.int .i64 4, .int .i64 5, .sl true [.int .i64 8]]], .sl false [.int .i64 6], .sl false [.int .i64 8], .sl false [.int .i64 0], .sl false [.int .i64 1], .int .i64 1, .clo 89 [.sl false [.sl true [.int .i64 1]]] []], .agg [.int .i64 1, .int .i64 5, .sl false [.int .i64 0], .sl false [.int .i64 0], .sl false [.int .i64 3, .int .i64 0]]], .tup [.agg [.int .i64 0, .sl true []], .bool false]⟩
set_option maxRecDepth 100000 in
theorem r82 : Runs X2 q82 := by unfold Runs; decide +kernel
def q94 : Known := ⟨57, [.agg [.int .i64 10, .sl false [.agg [.int .i64 10, .int .i64 2, .sl true [.int .i64 4]], .agg [.int .i64 4, .int .i64 5, .sl true [.int .i64 8]]], .sl false [.int .i64 6], .sl false [.int .i64 8], .sl false [.int .i64 1], .sl false [.int .i64 0], .int .i64 4, .clo 89 [.sl false [.sl true [.int .i64 4]]] []], .agg [.int .i64 4, .int .i64 0, .sl false [.int .i64 2], .sl false [.int .i64 0], .sl false [.int .i64 0, .int .i64 0]]], .tup [.agg [.int .i64 0, .sl true []], .bool false]⟩
set_option maxRecDepth 100000 in
theorem r94 : Runs X2 q94 := by unfold Runs; decide +kernel
def q106 : Known := ⟨57, [.agg [.int .i64 10, .sl false [.agg [.int .i64 10, .int .i64 2, .sl true [.int .i64 4]], .agg [.int .i64 4, .int .i64 5, .sl true [.int .i64 8]]], .sl false [.int .i64 6], .sl false [.int .i64 8], .sl false [.int .i64 1], .sl false [.int .i64 1], .int .i64 8, .clo 89 [.sl false [.sl true [.int .i64 8]]] []], .agg [.int .i64 8, .int .i64 0, .sl false [.int .i64 5], .sl false [.int .i64 0], .sl false [.int .i64 4, .int .i64 0]]], .tup [.agg [.int .i64 0, .sl true []], .bool false]⟩
set_option maxRecDepth 100000 in
theorem r106 : Runs X2 q106 := by unfold Runs; decide +kernel
def q114 : Known := ⟨57, [.agg [.int .i64 10, .sl false [.agg [.int .i64 10, .int .i64 2, .sl true [.int .i64 4]], .agg [.int .i64 4, .int .i64 5, .sl true [.int .i64 8]]], .sl false [.int .i64 6], .sl false [.int .i64 8], .sl false [.int .i64 0, .int .i64 1], .sl false [.int .i64 0, .int .i64 1], .int .i64 4, .clo 89 [.sl false [.sl true [.int .i64 1, .int .i64 1], .sl true [.int .i64 4, .int .i64 8]]] []], .agg [.int .i64 4, .int .i64 (-4), .sl false [.int .i64 3], .sl false [.int .i64 0], .sl false [.int .i64 0, .int .i64 0]]], .tup [.agg [.int .i64 0, .sl true []], .bool false]⟩
set_option maxRecDepth 100000 in
theorem r114 : Runs X2 q114 := by unfold Runs; decide +kernel
def knownH : List Known := [q12, q18, q24, q36, q49, q56, q68, q75, q82, q94, q106, q114]
theorem rightH : AllRun X2 knownH := allRun_cons r12 (allRun_cons r18 (allRun_cons r24 (allRun_cons r36 (allRun_cons r49 (allRun_cons r56 (allRun_cons r68 (allRun_cons r75 (allRun_cons r82 (allRun_cons r94 (allRun_cons r106 (allRun_cons r114 (allRun_nil))))))))))))
end Go.AM.E
end

section
/-
Calls that the kernel has run.
-/
namespace Go.AM.E
open Go Go.AM Go.RowKit Go.Proofs

def q134 : Known := ⟨55, [.agg [.int .i64 10, .sl false [.agg [.int .i64 10, .int .i64 2, .sl true [.int .i64 4]], .agg [.int .i64 10, .int .i64 5, .sl true [.int .i64 8]]], .sl false [.int .i64 6], .sl false [.int .i64 8]]], .sl false [.agg [.int .i64 10, .sl false [.agg [.int .i64 10, .int .i64 2, .sl true [.int .i64 4]], .agg [.int .i64 10, .int .i64 5, .sl true [.int .i64 8]]], .sl false [.int .i64 6], .sl false [.int .i64 8], .sl false [], .sl false [], .int .i64 1, .clo 89 [.sl true []] []], .agg [.int .i64 10, .sl false [.agg [.int .i64 10, .int .i64 2, .sl true [.int .i64 4]], .agg [.int .i64 10, .int .i64 5, .sl true [.int .i64 8]]], .sl false [.int .i64 6], .sl false [.int .i64 8], .sl false [.int .i64 0], .sl false [.int .i64 0], .int .i64 1, .clo 89 [.sl true [.sl true [.int .i64 1]]] []], .agg [.int .i64 10, .sl false [.agg [.int .i64 10, .int .i64 2, .sl true [.int .i64 4]], .agg [.int .i64 10, .int .i64 5, .sl true [.int .i64 8]]], .sl false [.int .i64 6], .sl false [.int .i64 8], .sl false [.int .i64 0], .sl false [.int .i64 1], .int .i64 1, .clo 89 [.sl true [.sl true [.int .i64 1]]] []], .agg [.int .i64 10, .sl false [.agg [.int .i64 10, .int .i64 2, .sl true [.int .i64 4]], .agg [.int .i64 10, .int .i64 5, .sl true [.int .i64 8]]], .sl false [.int .i64 6], .sl false [.int .i64 8], .sl false [.int .i64 1], .sl false [.int .i64 0], .int .i64 4, .clo 89 [.sl true [.sl true [.int .i64 4]]] []], .agg [.int .i64 10, .sl false [.agg [.int .i64 10, .int .i64 2, .sl true [.int .i64 4]], .agg [.int .i64 10, .int .i64 5, .sl true [.int .i64 8]]], .sl false [.int .i64 6], .sl false [.int .i64 8], .sl false [.int .i64 1], .sl false [.int .i64 1], .int .i64 8, .clo 89 [.sl true [.sl true [.int .i64 8]]] []], .agg [.int .i64 10, .sl false [.agg [.int .i64 10, .int .i64 2, .sl true [.int .i64 4]], .agg [.int .i64 10, .int .i64 5, .sl true [.int .i64 8]]], .sl false [.int .i64 6], .sl false [.int .i64 8], .sl false [.int .i64 0, .int .i64 1], .sl false [.int .i64 0, .int .i64 1], .int .i64 4, .clo 89 [.sl true [.sl true [.int .i64 1, .int .i64 1], .sl true [.int .i64 4, .int .i64 8]]] []]]⟩
set_option maxRecDepth 100000 in
theorem r134 : Runs X0 q134 := by unfold Runs; decide +kernel
def q135 : Known := ⟨55, [.agg [.int .i64 10, .sl false [.agg [.int .i64 10, .int .i64 2, .sl true [.int .i64 4]], .agg [.int .i64 4, .int .i64 5, .sl true [.int .i64 8]]], .sl false [.int .i64 6], .sl false [.int .i64 8]]], .sl false [.agg [.int .i64 10, .sl false [.agg [.int .i64 10, .int .i64 2, .sl true [.int .i64 4]], .agg [.int .i64 4, .int .i64 5, .sl true [.int .i64 8]]], .sl false [.int .i64 6], .sl false [.int .i64 8], .sl false [], .sl false [], .int .i64 1, .clo 89 [.sl true []] []], .agg [.int .i64 10, .sl false [.agg [.int .i64 10, .int .i64 2, .sl true [.int .i64 4]], .agg [.int .i64 4, .int .i64 5, .sl true [.int .i64 8]]], .sl false [.int .i64 6], .sl false [.int .i64 8], .sl false [.int .i64 0], .sl false [.int .i64 0], .int .i64 1, .clo 89 [.sl true [.sl true [.int .i64 1]]] []], .agg [.int .i64 10, .sl false [.agg [.int .i64 10, .int .i64 2, .sl true [.int .i64 4]], .agg [.int .i64 4, .int .i64 5, .sl true [.int .i64 8]]], .sl false [.int .i64 6], .sl false [.int .i64 8], .sl false [.int .i64 0], .sl false [.int .i64 1], .int .i64 1, .clo 89 [.sl true [.sl true [.int .i64 1]]] []], .agg [.int .i64 10, .sl false [.agg [.int .i64 10, .int .i64 2, .sl true [.int .i64 4]], .agg [.int .i64 4, .int .i64 5, .sl true [.int .i64 8]]], .sl false [.int .i64 6], .sl false [.int .i64 8], .sl false [.int .i64 1], .sl false [.int .i64 0], .int .i64 4, .clo 89 [.sl true [.sl true [.int .i64 4]]] []], .agg [.int .i64 10, .sl false [.agg [.int .i64 10, .int .i64 2, .sl true [.int .i64 4]], .agg [.int .i64 4, .int .i64 5, .sl true [.int .i64 8]]], .sl false [.int .i64 6], .sl false [.int .i64 8], .sl false [.int .i64 1], .sl false [.int .i64 1], .int .i64 8, .clo 89 [.sl true [.sl true [.int .i64 8]]] []], .agg [.int .i64 10, .sl false [.agg [.int .i64 10, .int .i64 2, .sl true [.int .i64 4]], .agg [.int .i64 4, .int .i64 5, .sl true [.int .i64 8]]], .sl false [.int .i64 6], .sl false [.int .i64 8], .sl false [.int .i64 0, .int .i64 1], .sl false [.int .i64 0, .int .i64 1], .int .i64 4, .clo 89 [.sl true [.sl true [.int .i64 1, .int .i64 1], .sl true [.int .i64 4, .int .i64 8]]] []]]⟩
set_option maxRecDepth 100000 in
theorem r135 : Runs X0 q135 := by unfold Runs; decide +kernel
def knownI : List Known := [q134, q135]
theorem rightI : AllRun X0 knownI := allRun_cons r134 (allRun_cons r135 (allRun_nil))
end Go.AM.E
end

section
/-
The machine's outside with the calls of the bases' best amounts.
-/
namespace Go.AM.E
open Go Go.AM Go.RowKit Go.Proofs

def X3 : Ext := XK X2 (knownH ++ knownI)
theorem rightHI : Right (knownH ++ knownI) := right_app (allRun_right X2_ok rightH) (allRun_right X0_ok rightI)
theorem X3_ok : ExtOk Try.prog X3 := XK_ok X2_ok rightHI
end Go.AM.E
end

section
/-
Calls that the kernel has run.
-/
namespace Go.AM.E
open Go Go.AM Go.RowKit Go.Proofs

def q136 : Known := ⟨20, [.agg [.int .i64 10, .sl false [.agg [.int .i64 10, .int .i64 2, .sl true [.int .i64 4]], .agg [.int .i64 10, .int .i64 5, .sl true [.int .i64 8]]], .sl false [.int .i64 6], .sl false [.int .i64 8]]], .tup [.agg [.int .i64 1, .int .i64 4, .sl true [.int .i64 20, .int .i64 20], .int .i64 4, .int .i64 (-4), .sl true [.int .i64 3], .sl true [.int .i64 0], .sl true [.int .i64 0, .int .i64 0]], .int .i64 0]⟩
set_option maxRecDepth 100000 in
theorem r136 : Runs X3 q136 := by unfold Runs; decide +kernel
def q137 : Known := ⟨20, [.agg [.int .i64 10, .sl false [.agg [.int .i64 10, .int .i64 2, .sl true [.int .i64 4]], .agg [.int .i64 4, .int .i64 5, .sl true [.int .i64 8]]], .sl false [.int .i64 6], .sl false [.int .i64 8]]], .tup [.agg [.int .i64 2, .int .i64 0, .sl true [], .int .i64 1, .int .i64 (-4), .sl true [.int .i64 1], .sl true [.int .i64 0], .sl true [.int .i64 0, .int .i64 4]], .int .i64 0]⟩
set_option maxRecDepth 100000 in
theorem r137 : Runs X3 q137 := by unfold Runs; decide +kernel
def knownL : List Known := [q136, q137]
theorem rightL : AllRun X3 knownL := allRun_cons r136 (allRun_cons r137 (allRun_nil))
def X4 : Ext := XK X3 knownL
theorem X4_ok : ExtOk Try.prog X4 := XK_ok X3_ok (allRun_right X3_ok rightL)
end Go.AM.E
end

section
/-
The law's sanity check is right: a fact of the machine's outside.
-/
namespace Go.AM.E
open Go Go.AM Go.RowKit Go.Proofs

def qsane : Known := ⟨17, [], .bool true⟩
set_option maxRecDepth 100000 in
theorem rsane : Runs X4 qsane := by unfold Runs; decide +kernel
theorem c96n (a : Option Addr) (cap : Nat) : (orcω E X0).call 96 [.lit (.slice a 0 cap)] = some (.sl true []) := by
  refine call_of rfl fn96 rfl ?_
  have hroom : roomy 0 8 = true := by decide
  cases a with
  | none => simp (maxSteps := 1000000) (implicitDefEqProofs := false) only [Try.ntmps96, Try.results96, efc96, fc96, Option.map_some, nilTest, ss, sd, zI, qG, zG, zH, St.get, qE, qF, qB, zD, norm, look, zF, qA, qI, St.alloc, St.drop, zA, part, zC, depth, qD, ↓reduceIte, Nat.reduceBEq, Nat.reduceAdd, Nat.reduceSub, Nat.reduceMul, Nat.reduceEqDiff, Nat.reduceLeDiff, Nat.reduceLT, qJ, qK, qL, qM, qN, qO, qP, qQ, qR, zJ, qS, qC, qT, evSlice0, qV, qW, qX, qY, qZ, zK, fixed, zL, wit, Option.isSome_some, qH, evSliceP, evPre, St.with, zE, Array.size, te, einl, inls, efr]
  | some a => simp (maxSteps := 1000000) (implicitDefEqProofs := false) only [Try.ntmps96, Try.results96, efc96, fc96, Option.map_some, hroom, nilTest, ss, sd, zI, qG, zG, zH, St.get, qE, qF, qB, zD, norm, look, zF, qA, qI, St.alloc, St.drop, zA, part, zC, depth, qD, ↓reduceIte, Nat.reduceBEq, Nat.reduceAdd, Nat.reduceSub, Nat.reduceMul, Nat.reduceEqDiff, Nat.reduceLeDiff, Nat.reduceLT, qJ, qK, qL, qM, qN, qO, qP, qQ, qR, zJ, qS, qC, qT, evSlice0, qV, qW, qX, qY, qZ, zK, fixed, zL, wit, Option.isSome_some, qH, evSliceP, evPre, St.with, zE, Array.size, te, einl, inls, efr]
def cloneAt : List V → Option V
  | [.sl false []] => some (.sl true [])
  | _ => none
theorem cloneAt_some {args : List V} {r : V} (h : cloneAt args = some r) : args = [.sl false []] ∧ r = .sl true [] := by
  unfold cloneAt at h
  split at h
  · cases h
    exact ⟨rfl, rfl⟩
  · cases h
def X9 : Ext := { call := fun g args => if g = 96 then cloneAt args else X0.call g args, inl := fun _ _ _ _ => none }
theorem X9_ok : ExtOk Try.prog X9 := ⟨(fun g args r h => by
  simp only [X9] at h
  split at h
  · rename_i hg
    subst hg
    obtain ⟨rfl, rfl⟩ := cloneAt_some h
    exact callOk_empty fun a cap => Orc.callOk E_ok X0_ok mixed (c96n a cap)
  · exact X0_ok.call _ _ _ h), (fun _ _ _ _ _ _ h => by cases h)⟩

def XS : Ext := XK X9 [qsane]
theorem XS_ok : ExtOk Try.prog XS := XK_ok X9_ok (allRun_right X4_ok (allRun_cons rsane allRun_nil))

theorem c94 (x y : Int) (hx : 0 ≤ x) (hy : 0 ≤ y) : (orcω E XS).call 94 [.int .u64 x, .int .u64 y] = some (.int .u64 ((Nat.gcd x.toNat y.toNat : Nat) : Int)) := by
  refine (orcω_le 0).call _ _ _ ?_
  simp only [orc, XS, XK, X9, X0, gcdAt, hx, hy, and_self, if_true, show ¬ (94 = 96) by decide, if_false]
theorem c17 : (orcω E XS).call 17 [] = some (.bool true) := by
  refine (orcω_le 0).call _ _ _ ?_
  simp only [orc, XS, XK, X9, X0, kn, qsane, eqVL, if_false, show ¬ (17 = 96) by decide, beq_self_eq_true, Bool.and_self, if_true, show ¬ (17 = 94) by decide]
end Go.AM.E
end

