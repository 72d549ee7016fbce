/- A part of the proof: the texts ESaneD, ESaneE, ESaneF, ESaneG, one after another. No condition. -/
import Derived.Test.YtkacpekakpbalaaESaneP
set_option linter.unusedVariables false
set_option linter.unusedSimpArgs false
set_option maxRecDepth 20000

section
/-
Calls that the kernel has run.
-/
namespace Go.AM.E
open Go Go.AM Go.RowKit Go.Proofs

def q3 : Known := ⟨92, [.agg [.int .i64 10, .sl false [.agg [.int .i64 10, .int .i64 2, .sl true [.int .i64 4]], .agg [.int .i64 10, .int .i64 5, .sl true [.int .i64 8]]], .sl false [.int .i64 6], .sl false [.int .i64 8], .sl false [], .sl false [], .int .i64 1, .clo 89 [.sl false []] []], .int .i64 0, .int .i64 0], .tup [.agg [.int .i64 1, .sl true [.int .i64 0, .int .i64 0]], .bool true]⟩
set_option maxRecDepth 100000 in
theorem r3 : Runs X1 q3 := by unfold Runs; decide +kernel
def q5 : Known := ⟨92, [.agg [.int .i64 10, .sl false [.agg [.int .i64 10, .int .i64 2, .sl true [.int .i64 4]], .agg [.int .i64 10, .int .i64 5, .sl true [.int .i64 8]]], .sl false [.int .i64 6], .sl false [.int .i64 8], .sl false [], .sl false [], .int .i64 1, .clo 89 [.sl false []] []], .int .i64 0, .int .i64 1], .tup [.agg [.int .i64 1, .sl true [.int .i64 10, .int .i64 0]], .bool true]⟩
set_option maxRecDepth 100000 in
theorem r5 : Runs X1 q5 := by unfold Runs; decide +kernel
def q7 : Known := ⟨92, [.agg [.int .i64 10, .sl false [.agg [.int .i64 10, .int .i64 2, .sl true [.int .i64 4]], .agg [.int .i64 10, .int .i64 5, .sl true [.int .i64 8]]], .sl false [.int .i64 6], .sl false [.int .i64 8], .sl false [], .sl false [], .int .i64 1, .clo 89 [.sl false []] []], .int .i64 0, .int .i64 2], .tup [.agg [.int .i64 1, .sl true [.int .i64 0, .int .i64 10]], .bool true]⟩
set_option maxRecDepth 100000 in
theorem r7 : Runs X1 q7 := by unfold Runs; decide +kernel
def q10 : Known := ⟨92, [.agg [.int .i64 10, .sl false [.agg [.int .i64 10, .int .i64 2, .sl true [.int .i64 4]], .agg [.int .i64 10, .int .i64 5, .sl true [.int .i64 8]]], .sl false [.int .i64 6], .sl false [.int .i64 8], .sl false [], .sl false [], .int .i64 1, .clo 89 [.sl false []] []], .int .i64 0, .int .i64 3], .tup [.agg [.int .i64 1, .sl true [.int .i64 10, .int .i64 10]], .bool true]⟩
set_option maxRecDepth 100000 in
theorem r10 : Runs X1 q10 := by unfold Runs; decide +kernel
def q16 : Known := ⟨92, [.agg [.int .i64 10, .sl false [.agg [.int .i64 10, .int .i64 2, .sl true [.int .i64 4]], .agg [.int .i64 10, .int .i64 5, .sl true [.int .i64 8]]], .sl false [.int .i64 6], .sl false [.int .i64 8], .sl false [.int .i64 0], .sl false [.int .i64 0], .int .i64 1, .clo 89 [.sl false [.sl true [.int .i64 1]]] []], .int .i64 0, .int .i64 0], .tup [.agg [.int .i64 1, .sl true [.int .i64 10, .int .i64 0]], .bool true]⟩
set_option maxRecDepth 100000 in
theorem r16 : Runs X1 q16 := by unfold Runs; decide +kernel
def q17 : Known := ⟨92, [.agg [.int .i64 10, .sl false [.agg [.int .i64 10, .int .i64 2, .sl true [.int .i64 4]], .agg [.int .i64 10, .int .i64 5, .sl true [.int .i64 8]]], .sl false [.int .i64 6], .sl false [.int .i64 8], .sl false [.int .i64 0], .sl false [.int .i64 0], .int .i64 1, .clo 89 [.sl false [.sl true [.int .i64 1]]] []], .int .i64 0, .int .i64 2], .tup [.agg [.int .i64 1, .sl true [.int .i64 0, .int .i64 10]], .bool true]⟩
set_option maxRecDepth 100000 in
theorem r17 : Runs X1 q17 := by unfold Runs; decide +kernel
def q22 : Known := ⟨92, [.agg [.int .i64 10, .sl false [.agg [.int .i64 10, .int .i64 2, .sl true [.int .i64 4]], .agg [.int .i64 10, .int .i64 5, .sl true [.int .i64 8]]], .sl false [.int .i64 6], .sl false [.int .i64 8], .sl false [.int .i64 0], .sl false [.int .i64 1], .int .i64 1, .clo 89 [.sl false [.sl true [.int .i64 1]]] []], .int .i64 0, .int .i64 0], .tup [.agg [.int .i64 1, .sl true [.int .i64 0, .int .i64 10]], .bool true]⟩
set_option maxRecDepth 100000 in
theorem r22 : Runs X1 q22 := by unfold Runs; decide +kernel
def q23 : Known := ⟨92, [.agg [.int .i64 10, .sl false [.agg [.int .i64 10, .int .i64 2, .sl true [.int .i64 4]], .agg [.int .i64 10, .int .i64 5, .sl true [.int .i64 8]]], .sl false [.int .i64 6], .sl false [.int .i64 8], .sl false [.int .i64 0], .sl false [.int .i64 1], .int .i64 1, .clo 89 [.sl false [.sl true [.int .i64 1]]] []], .int .i64 0, .int .i64 1], .tup [.agg [.int .i64 1, .sl true [.int .i64 10, .int .i64 0]], .bool true]⟩
set_option maxRecDepth 100000 in
theorem r23 : Runs X1 q23 := by unfold Runs; decide +kernel
def q28 : Known := ⟨92, [.agg [.int .i64 10, .sl false [.agg [.int .i64 10, .int .i64 2, .sl true [.int .i64 4]], .agg [.int .i64 10, .int .i64 5, .sl true [.int .i64 8]]], .sl false [.int .i64 6], .sl false [.int .i64 8], .sl false [.int .i64 1], .sl false [.int .i64 0], .int .i64 4, .clo 89 [.sl false [.sl true [.int .i64 4]]] []], .int .i64 0, .int .i64 0], .tup [.agg [.int .i64 4, .sl true [.int .i64 60, .int .i64 0]], .bool true]⟩
set_option maxRecDepth 100000 in
theorem r28 : Runs X1 q28 := by unfold Runs; decide +kernel
def q30 : Known := ⟨92, [.agg [.int .i64 10, .sl false [.agg [.int .i64 10, .int .i64 2, .sl true [.int .i64 4]], .agg [.int .i64 10, .int .i64 5, .sl true [.int .i64 8]]], .sl false [.int .i64 6], .sl false [.int .i64 8], .sl false [.int .i64 1], .sl false [.int .i64 0], .int .i64 4, .clo 89 [.sl false [.sl true [.int .i64 4]]] []], .int .i64 0, .int .i64 2], .tup [.agg [.int .i64 0, .sl true []], .bool false]⟩
set_option maxRecDepth 100000 in
theorem r30 : Runs X1 q30 := by unfold Runs; decide +kernel
def q31 : Known := ⟨92, [.agg [.int .i64 10, .sl false [.agg [.int .i64 10, .int .i64 2, .sl true [.int .i64 4]], .agg [.int .i64 10, .int .i64 5, .sl true [.int .i64 8]]], .sl false [.int .i64 6], .sl false [.int .i64 8], .sl false [.int .i64 1], .sl false [.int .i64 0], .int .i64 4, .clo 89 [.sl false [.sl true [.int .i64 4]]] []], .int .i64 2, .int .i64 0], .tup [.agg [.int .i64 4, .sl true [.int .i64 80, .int .i64 0]], .bool true]⟩
set_option maxRecDepth 100000 in
theorem r31 : Runs X1 q31 := by unfold Runs; decide +kernel
def q33 : Known := ⟨92, [.agg [.int .i64 10, .sl false [.agg [.int .i64 10, .int .i64 2, .sl true [.int .i64 4]], .agg [.int .i64 10, .int .i64 5, .sl true [.int .i64 8]]], .sl false [.int .i64 6], .sl false [.int .i64 8], .sl false [.int .i64 1], .sl false [.int .i64 0], .int .i64 4, .clo 89 [.sl false [.sl true [.int .i64 4]]] []], .int .i64 2, .int .i64 2], .tup [.agg [.int .i64 4, .sl true [.int .i64 0, .int .i64 40]], .bool true]⟩
set_option maxRecDepth 100000 in
theorem r33 : Runs X1 q33 := by unfold Runs; decide +kernel
def q40 : Known := ⟨92, [.agg [.int .i64 10, .sl false [.agg [.int .i64 10, .int .i64 2, .sl true [.int .i64 4]], .agg [.int .i64 10, .int .i64 5, .sl true [.int .i64 8]]], .sl false [.int .i64 6], .sl false [.int .i64 8], .sl false [.int .i64 1], .sl false [.int .i64 1], .int .i64 8, .clo 89 [.sl false [.sl true [.int .i64 8]]] []], .int .i64 0, .int .i64 0], .tup [.agg [.int .i64 8, .sl true [.int .i64 0, .int .i64 60]], .bool true]⟩
set_option maxRecDepth 100000 in
theorem r40 : Runs X1 q40 := by unfold Runs; decide +kernel
def q42 : Known := ⟨92, [.agg [.int .i64 10, .sl false [.agg [.int .i64 10, .int .i64 2, .sl true [.int .i64 4]], .agg [.int .i64 10, .int .i64 5, .sl true [.int .i64 8]]], .sl false [.int .i64 6], .sl false [.int .i64 8], .sl false [.int .i64 1], .sl false [.int .i64 1], .int .i64 8, .clo 89 [.sl false [.sl true [.int .i64 8]]] []], .int .i64 0, .int .i64 1], .tup [.agg [.int .i64 8, .sl true [.int .i64 80, .int .i64 20]], .bool true]⟩
set_option maxRecDepth 100000 in
theorem r42 : Runs X1 q42 := by unfold Runs; decide +kernel
def q44 : Known := ⟨92, [.agg [.int .i64 10, .sl false [.agg [.int .i64 10, .int .i64 2, .sl true [.int .i64 4]], .agg [.int .i64 10, .int .i64 5, .sl true [.int .i64 8]]], .sl false [.int .i64 6], .sl false [.int .i64 8], .sl false [.int .i64 1], .sl false [.int .i64 1], .int .i64 8, .clo 89 [.sl false [.sl true [.int .i64 8]]] []], .int .i64 2, .int .i64 0], .tup [.agg [.int .i64 8, .sl true [.int .i64 0, .int .i64 80]], .bool true]⟩
set_option maxRecDepth 100000 in
theorem r44 : Runs X1 q44 := by unfold Runs; decide +kernel
def q47 : Known := ⟨92, [.agg [.int .i64 10, .sl false [.agg [.int .i64 10, .int .i64 2, .sl true [.int .i64 4]], .agg [.int .i64 10, .int .i64 5, .sl true [.int .i64 8]]], .sl false [.int .i64 6], .sl false [.int .i64 8], .sl false [.int .i64 1], .sl false [.int .i64 1], .int .i64 8, .clo 89 [.sl false [.sl true [.int .i64 8]]] []], .int .i64 2, .int .i64 1], .tup [.agg [.int .i64 8, .sl true [.int .i64 80, .int .i64 40]], .bool true]⟩
set_option maxRecDepth 100000 in
theorem r47 : Runs X1 q47 := by unfold Runs; decide +kernel
def q53 : Known := ⟨92, [.agg [.int .i64 10, .sl false [.agg [.int .i64 10, .int .i64 2, .sl true [.int .i64 4]], .agg [.int .i64 10, .int .i64 5, .sl true [.int .i64 8]]], .sl false [.int .i64 6], .sl false [.int .i64 8], .sl false [.int .i64 0, .int .i64 1], .sl false [.int .i64 0, .int .i64 1], .int .i64 4, .clo 89 [.sl false [.sl true [.int .i64 1, .int .i64 1], .sl true [.int .i64 4, .int .i64 8]]] []], .int .i64 0, .int .i64 0], .tup [.agg [.int .i64 4, .sl true [.int .i64 20, .int .i64 20]], .bool true]⟩
set_option maxRecDepth 100000 in
theorem r53 : Runs X1 q53 := by unfold Runs; decide +kernel
def knownD : List Known := [q3, q5, q7, q10, q16, q17, q22, q23, q28, q30, q31, q33, q40, q42, q44, q47, q53]
theorem rightD : AllRun X1 knownD := allRun_cons r3 (allRun_cons r5 (allRun_cons r7 (allRun_cons r10 (allRun_cons r16 (allRun_cons r17 (allRun_cons r22 (allRun_cons r23 (allRun_cons r28 (allRun_cons r30 (allRun_cons r31 (allRun_cons r33 (allRun_cons r40 (allRun_cons r42 (allRun_cons r44 (allRun_cons r47 (allRun_cons r53 (allRun_nil)))))))))))))))))
end Go.AM.E
end

section
/-
Calls that the kernel has run.
-/
namespace Go.AM.E
open Go Go.AM Go.RowKit Go.Proofs

def q60 : Known := ⟨92, [.agg [.int .i64 10, .sl false [.agg [.int .i64 10, .int .i64 2, .sl true [.int .i64 4]], .agg [.int .i64 4, .int .i64 5, .sl true [.int .i64 8]]], .sl false [.int .i64 6], .sl false [.int .i64 8], .sl false [], .sl false [], .int .i64 1, .clo 89 [.sl false []] []], .int .i64 0, .int .i64 0], .tup [.agg [.int .i64 1, .sl true [.int .i64 0, .int .i64 0]], .bool true]⟩
set_option maxRecDepth 100000 in
theorem r60 : Runs X1 q60 := by unfold Runs; decide +kernel
def q62 : Known := ⟨92, [.agg [.int .i64 10, .sl false [.agg [.int .i64 10, .int .i64 2, .sl true [.int .i64 4]], .agg [.int .i64 4, .int .i64 5, .sl true [.int .i64 8]]], .sl false [.int .i64 6], .sl false [.int .i64 8], .sl false [], .sl false [], .int .i64 1, .clo 89 [.sl false []] []], .int .i64 0, .int .i64 1], .tup [.agg [.int .i64 1, .sl true [.int .i64 10, .int .i64 0]], .bool true]⟩
set_option maxRecDepth 100000 in
theorem r62 : Runs X1 q62 := by unfold Runs; decide +kernel
def q64 : Known := ⟨92, [.agg [.int .i64 10, .sl false [.agg [.int .i64 10, .int .i64 2, .sl true [.int .i64 4]], .agg [.int .i64 4, .int .i64 5, .sl true [.int .i64 8]]], .sl false [.int .i64 6], .sl false [.int .i64 8], .sl false [], .sl false [], .int .i64 1, .clo 89 [.sl false []] []], .int .i64 0, .int .i64 2], .tup [.agg [.int .i64 1, .sl true [.int .i64 0, .int .i64 4]], .bool true]⟩
set_option maxRecDepth 100000 in
theorem r64 : Runs X1 q64 := by unfold Runs; decide +kernel
def q66 : Known := ⟨92, [.agg [.int .i64 10, .sl false [.agg [.int .i64 10, .int .i64 2, .sl true [.int .i64 4]], .agg [.int .i64 4, .int .i64 5, .sl true [.int .i64 8]]], .sl false [.int .i64 6], .sl false [.int .i64 8], .sl false [], .sl false [], .int .i64 1, .clo 89 [.sl false []] []], .int .i64 0, .int .i64 3], .tup [.agg [.int .i64 1, .sl true [.int .i64 10, .int .i64 4]], .bool true]⟩
set_option maxRecDepth 100000 in
theorem r66 : Runs X1 q66 := by unfold Runs; decide +kernel
def q72 : Known := ⟨92, [.agg [.int .i64 10, .sl false [.agg [.int .i64 10, .int .i64 2, .sl true [.int .i64 4]], .agg [.int .i64 4, .int .i64 5, .sl true [.int .i64 8]]], .sl false [.int .i64 6], .sl false [.int .i64 8], .sl false [.int .i64 0], .sl false [.int .i64 0], .int .i64 1, .clo 89 [.sl false [.sl true [.int .i64 1]]] []], .int .i64 0, .int .i64 0], .tup [.agg [.int .i64 1, .sl true [.int .i64 10, .int .i64 0]], .bool true]⟩
set_option maxRecDepth 100000 in
theorem r72 : Runs X1 q72 := by unfold Runs; decide +kernel
def q73 : Known := ⟨92, [.agg [.int .i64 10, .sl false [.agg [.int .i64 10, .int .i64 2, .sl true [.int .i64 4]], .agg [.int .i64 4, .int .i64 5, .sl true [.int .i64 8]]], .sl false [.int .i64 6], .sl false [.int .i64 8], .sl false [.int .i64 0], .sl false [.int .i64 0], .int .i64 1, .clo 89 [.sl false [.sl true [.int .i64 1]]] []], .int .i64 0, .int .i64 2], .tup [.agg [.int .i64 1, .sl true [.int .i64 6, .int .i64 4]], .bool true]⟩
set_option maxRecDepth 100000 in
theorem r73 : Runs X1 q73 := by unfold Runs; decide +kernel
def q79 : Known := ⟨92, [.agg [.int .i64 10, .sl false [.agg [.int .i64 10, .int .i64 2, .sl true [.int .i64 4]], .agg [.int .i64 4, .int .i64 5, .sl true [.int .i64 8]]], .sl false [.int .i64 6], .sl false [.int .i64 8], .sl false [.int .i64 0], .sl false [.int .i64 1], .int .i64 1, .clo 89 [.sl false [.sl true [.int .i64 1]]] []], .int .i64 0, .int .i64 0], .tup [.agg [.int .i64 1, .sl true [.int .i64 0, .int .i64 10]], .bool true]⟩
set_option maxRecDepth 100000 in
theorem r79 : Runs X1 q79 := by unfold Runs; decide +kernel
def q81 : Known := ⟨92, [.agg [.int .i64 10, .sl false [.agg [.int .i64 10, .int .i64 2, .sl true [.int .i64 4]], .agg [.int .i64 4, .int .i64 5, .sl true [.int .i64 8]]], .sl false [.int .i64 6], .sl false [.int .i64 8], .sl false [.int .i64 0], .sl false [.int .i64 1], .int .i64 1, .clo 89 [.sl false [.sl true [.int .i64 1]]] []], .int .i64 0, .int .i64 1], .tup [.agg [.int .i64 1, .sl true [.int .i64 10, .int .i64 0]], .bool true]⟩
set_option maxRecDepth 100000 in
theorem r81 : Runs X1 q81 := by unfold Runs; decide +kernel
def q86 : Known := ⟨92, [.agg [.int .i64 10, .sl false [.agg [.int .i64 10, .int .i64 2, .sl true [.int .i64 4]], .agg [.int .i64 4, .int .i64 5, .sl true [.int .i64 8]]], .sl false [.int .i64 6], .sl false [.int .i64 8], .sl false [.int .i64 1], .sl false [.int .i64 0], .int .i64 4, .clo 89 [.sl false [.sl true [.int .i64 4]]] []], .int .i64 0, .int .i64 0], .tup [.agg [.int .i64 4, .sl true [.int .i64 60, .int .i64 0]], .bool true]⟩
set_option maxRecDepth 100000 in
theorem r86 : Runs X1 q86 := by unfold Runs; decide +kernel
def q88 : Known := ⟨92, [.agg [.int .i64 10, .sl false [.agg [.int .i64 10, .int .i64 2, .sl true [.int .i64 4]], .agg [.int .i64 4, .int .i64 5, .sl true [.int .i64 8]]], .sl false [.int .i64 6], .sl false [.int .i64 8], .sl false [.int .i64 1], .sl false [.int .i64 0], .int .i64 4, .clo 89 [.sl false [.sl true [.int .i64 4]]] []], .int .i64 0, .int .i64 2], .tup [.agg [.int .i64 4, .sl true [.int .i64 28, .int .i64 16]], .bool true]⟩
set_option maxRecDepth 100000 in
theorem r88 : Runs X1 q88 := by unfold Runs; decide +kernel
def q90 : Known := ⟨92, [.agg [.int .i64 10, .sl false [.agg [.int .i64 10, .int .i64 2, .sl true [.int .i64 4]], .agg [.int .i64 4, .int .i64 5, .sl true [.int .i64 8]]], .sl false [.int .i64 6], .sl false [.int .i64 8], .sl false [.int .i64 1], .sl false [.int .i64 0], .int .i64 4, .clo 89 [.sl false [.sl true [.int .i64 4]]] []], .int .i64 2, .int .i64 0], .tup [.agg [.int .i64 4, .sl true [.int .i64 80, .int .i64 0]], .bool true]⟩
set_option maxRecDepth 100000 in
theorem r90 : Runs X1 q90 := by unfold Runs; decide +kernel
def q92 : Known := ⟨92, [.agg [.int .i64 10, .sl false [.agg [.int .i64 10, .int .i64 2, .sl true [.int .i64 4]], .agg [.int .i64 4, .int .i64 5, .sl true [.int .i64 8]]], .sl false [.int .i64 6], .sl false [.int .i64 8], .sl false [.int .i64 1], .sl false [.int .i64 0], .int .i64 4, .clo 89 [.sl false [.sl true [.int .i64 4]]] []], .int .i64 2, .int .i64 2], .tup [.agg [.int .i64 4, .sl true [.int .i64 48, .int .i64 16]], .bool true]⟩
set_option maxRecDepth 100000 in
theorem r92 : Runs X1 q92 := by unfold Runs; decide +kernel
def q98 : Known := ⟨92, [.agg [.int .i64 10, .sl false [.agg [.int .i64 10, .int .i64 2, .sl true [.int .i64 4]], .agg [.int .i64 4, .int .i64 5, .sl true [.int .i64 8]]], .sl false [.int .i64 6], .sl false [.int .i64 8], .sl false [.int .i64 1], .sl false [.int .i64 1], .int .i64 8, .clo 89 [.sl false [.sl true [.int .i64 8]]] []], .int .i64 0, .int .i64 0], .tup [.agg [.int .i64 8, .sl true [.int .i64 0, .int .i64 60]], .bool true]⟩
set_option maxRecDepth 100000 in
theorem r98 : Runs X1 q98 := by unfold Runs; decide +kernel
def q100 : Known := ⟨92, [.agg [.int .i64 10, .sl false [.agg [.int .i64 10, .int .i64 2, .sl true [.int .i64 4]], .agg [.int .i64 4, .int .i64 5, .sl true [.int .i64 8]]], .sl false [.int .i64 6], .sl false [.int .i64 8], .sl false [.int .i64 1], .sl false [.int .i64 1], .int .i64 8, .clo 89 [.sl false [.sl true [.int .i64 8]]] []], .int .i64 0, .int .i64 1], .tup [.agg [.int .i64 8, .sl true [.int .i64 80, .int .i64 20]], .bool true]⟩
set_option maxRecDepth 100000 in
theorem r100 : Runs X1 q100 := by unfold Runs; decide +kernel
def q102 : Known := ⟨92, [.agg [.int .i64 10, .sl false [.agg [.int .i64 10, .int .i64 2, .sl true [.int .i64 4]], .agg [.int .i64 4, .int .i64 5, .sl true [.int .i64 8]]], .sl false [.int .i64 6], .sl false [.int .i64 8], .sl false [.int .i64 1], .sl false [.int .i64 1], .int .i64 8, .clo 89 [.sl false [.sl true [.int .i64 8]]] []], .int .i64 2, .int .i64 0], .tup [.agg [.int .i64 8, .sl true [.int .i64 0, .int .i64 80]], .bool true]⟩
set_option maxRecDepth 100000 in
theorem r102 : Runs X1 q102 := by unfold Runs; decide +kernel
def q104 : Known := ⟨92, [.agg [.int .i64 10, .sl false [.agg [.int .i64 10, .int .i64 2, .sl true [.int .i64 4]], .agg [.int .i64 4, .int .i64 5, .sl true [.int .i64 8]]], .sl false [.int .i64 6], .sl false [.int .i64 8], .sl false [.int .i64 1], .sl false [.int .i64 1], .int .i64 8, .clo 89 [.sl false [.sl true [.int .i64 8]]] []], .int .i64 2, .int .i64 1], .tup [.agg [.int .i64 8, .sl true [.int .i64 80, .int .i64 40]], .bool true]⟩
set_option maxRecDepth 100000 in
theorem r104 : Runs X1 q104 := by unfold Runs; decide +kernel
def q110 : Known := ⟨92, [.agg [.int .i64 10, .sl false [.agg [.int .i64 10, .int .i64 2, .sl true [.int .i64 4]], .agg [.int .i64 4, .int .i64 5, .sl true [.int .i64 8]]], .sl false [.int .i64 6], .sl false [.int .i64 8], .sl false [.int .i64 0, .int .i64 1], .sl false [.int .i64 0, .int .i64 1], .int .i64 4, .clo 89 [.sl false [.sl true [.int .i64 1, .int .i64 1], .sl true [.int .i64 4, .int .i64 8]]] []], .int .i64 0, .int .i64 0], .tup [.agg [.int .i64 4, .sl true [.int .i64 20, .int .i64 20]], .bool true]⟩
set_option maxRecDepth 100000 in
theorem r110 : Runs X1 q110 := by unfold Runs; decide +kernel
def q112 : Known := ⟨92, [.agg [.int .i64 10, .sl false [.agg [.int .i64 10, .int .i64 2, .sl true [.int .i64 4]], .agg [.int .i64 4, .int .i64 5, .sl true [.int .i64 8]]], .sl false [.int .i64 6], .sl false [.int .i64 8], .sl false [.int .i64 0, .int .i64 1], .sl false [.int .i64 0, .int .i64 1], .int .i64 4, .clo 89 [.sl false [.sl true [.int .i64 1, .int .i64 1], .sl true [.int .i64 4, .int .i64 8]]] []], .int .i64 2, .int .i64 0], .tup [.agg [.int .i64 4, .sl true [.int .i64 0, .int .i64 40]], .bool true]⟩
set_option maxRecDepth 100000 in
theorem r112 : Runs X1 q112 := by unfold Runs; decide +kernel
def knownE : List Known := [q60, q62, q64, q66, q72, q73, q79, q81, q86, q88, q90, q92, q98, q100, q102, q104, q110, q112]
theorem rightE : AllRun X1 knownE := allRun_cons r60 (allRun_cons r62 (allRun_cons r64 (allRun_cons r66 (allRun_cons r72 (allRun_cons r73 (allRun_cons r79 (allRun_cons r81 (allRun_cons r86 (allRun_cons r88 (allRun_cons r90 (allRun_cons r92 (allRun_cons r98 (allRun_cons r100 (allRun_cons r102 (allRun_cons r104 (allRun_cons r110 (allRun_cons r112 (allRun_nil))))))))))))))))))
end Go.AM.E
end

section
/-
Calls that the kernel has run.
-/
namespace Go.AM.E
open Go Go.AM Go.RowKit Go.Proofs

def q1 : Known := ⟨56, [.agg [.int .i64 10, .sl false [.agg [.int .i64 10, .int .i64 2, .sl true [.int .i64 4]], .agg [.int .i64 10, .int .i64 5, .sl true [.int .i64 8]]], .sl false [.int .i64 6], .sl false [.int .i64 8], .sl false [], .sl false [], .int .i64 1, .clo 89 [.sl false []] []]], .agg [.int .i64 1, .int .i64 0, .sl true [.int .i64 0], .sl true [.int .i64 0], .sl true [.int .i64 0, .int .i64 0]]⟩
set_option maxRecDepth 100000 in
theorem r1 : Runs X1 q1 := by unfold Runs; decide +kernel
def q14 : Known := ⟨56, [.agg [.int .i64 10, .sl false [.agg [.int .i64 10, .int .i64 2, .sl true [.int .i64 4]], .agg [.int .i64 10, .int .i64 5, .sl true [.int .i64 8]]], .sl false [.int .i64 6], .sl false [.int .i64 8], .sl false [.int .i64 0], .sl false [.int .i64 0], .int .i64 1, .clo 89 [.sl false [.sl true [.int .i64 1]]] []]], .agg [.int .i64 1, .int .i64 2, .sl true [.int .i64 0], .sl true [.int .i64 0], .sl true [.int .i64 0, .int .i64 0]]⟩
set_option maxRecDepth 100000 in
theorem r14 : Runs X1 q14 := by unfold Runs; decide +kernel
def q20 : Known := ⟨56, [.agg [.int .i64 10, .sl false [.agg [.int .i64 10, .int .i64 2, .sl true [.int .i64 4]], .agg [.int .i64 10, .int .i64 5, .sl true [.int .i64 8]]], .sl false [.int .i64 6], .sl false [.int .i64 8], .sl false [.int .i64 0], .sl false [.int .i64 1], .int .i64 1, .clo 89 [.sl false [.sl true [.int .i64 1]]] []]], .agg [.int .i64 1, .int .i64 5, .sl true [.int .i64 0], .sl true [.int .i64 0], .sl true [.int .i64 3, .int .i64 0]]⟩
set_option maxRecDepth 100000 in
theorem r20 : Runs X1 q20 := by unfold Runs; decide +kernel
def q26 : Known := ⟨56, [.agg [.int .i64 10, .sl false [.agg [.int .i64 10, .int .i64 2, .sl true [.int .i64 4]], .agg [.int .i64 10, .int .i64 5, .sl true [.int .i64 8]]], .sl false [.int .i64 6], .sl false [.int .i64 8], .sl false [.int .i64 1], .sl false [.int .i64 0], .int .i64 4, .clo 89 [.sl false [.sl true [.int .i64 4]]] []]], .agg [.int .i64 4, .int .i64 0, .sl true [.int .i64 2], .sl true [.int .i64 0], .sl true [.int .i64 0, .int .i64 0]]⟩
set_option maxRecDepth 100000 in
theorem r26 : Runs X1 q26 := by unfold Runs; decide +kernel
def q38 : Known := ⟨56, [.agg [.int .i64 10, .sl false [.agg [.int .i64 10, .int .i64 2, .sl true [.int .i64 4]], .agg [.int .i64 10, .int .i64 5, .sl true [.int .i64 8]]], .sl false [.int .i64 6], .sl false [.int .i64 8], .sl false [.int .i64 1], .sl false [.int .i64 1], .int .i64 8, .clo 89 [.sl false [.sl true [.int .i64 8]]] []]], .agg [.int .i64 8, .int .i64 0, .sl true [.int .i64 5], .sl true [.int .i64 0], .sl true [.int .i64 4, .int .i64 0]]⟩
set_option maxRecDepth 100000 in
theorem r38 : Runs X1 q38 := by unfold Runs; decide +kernel
def q51 : Known := ⟨56, [.agg [.int .i64 10, .sl false [.agg [.int .i64 10, .int .i64 2, .sl true [.int .i64 4]], .agg [.int .i64 10, .int .i64 5, .sl true [.int .i64 8]]], .sl false [.int .i64 6], .sl false [.int .i64 8], .sl false [.int .i64 0, .int .i64 1], .sl false [.int .i64 0, .int .i64 1], .int .i64 4, .clo 89 [.sl false [.sl true [.int .i64 1, .int .i64 1], .sl true [.int .i64 4, .int .i64 8]]] []]], .agg [.int .i64 4, .int .i64 (-4), .sl true [.int .i64 3], .sl true [.int .i64 0], .sl true [.int .i64 0, .int .i64 0]]⟩
set_option maxRecDepth 100000 in
theorem r51 : Runs X1 q51 := by unfold Runs; decide +kernel
def q58 : Known := ⟨56, [.agg [.int .i64 10, .sl false [.agg [.int .i64 10, .int .i64 2, .sl true [.int .i64 4]], .agg [.int .i64 4, .int .i64 5, .sl true [.int .i64 8]]], .sl false [.int .i64 6], .sl false [.int .i64 8], .sl false [], .sl false [], .int .i64 1, .clo 89 [.sl false []] []]], .agg [.int .i64 1, .int .i64 0, .sl true [.int .i64 0], .sl true [.int .i64 0], .sl true [.int .i64 0, .int .i64 0]]⟩
set_option maxRecDepth 100000 in
theorem r58 : Runs X1 q58 := by unfold Runs; decide +kernel
def q70 : Known := ⟨56, [.agg [.int .i64 10, .sl false [.agg [.int .i64 10, .int .i64 2, .sl true [.int .i64 4]], .agg [.int .i64 4, .int .i64 5, .sl true [.int .i64 8]]], .sl false [.int .i64 6], .sl false [.int .i64 8], .sl false [.int .i64 0], .sl false [.int .i64 0], .int .i64 1, .clo 89 [.sl false [.sl true [.int .i64 1]]] []]], .agg [.int .i64 1, .int .i64 2, .sl true [.int .i64 0], .sl true [.int .i64 0], .sl true [.int .i64 0, .int .i64 0]]⟩
set_option maxRecDepth 100000 in
theorem r70 : Runs X1 q70 := by unfold Runs; decide +kernel
def q77 : Known := ⟨56, [.agg [.int .i64 10, .sl false [.agg [.int .i64 10, .int .i64 2, .sl true [.int .i64 4]], .agg [.int .i64 4, .int .i64 5, .sl true [.int .i64 8]]], .sl false [.int .i64 6], .sl false [.int .i64 8], .sl false [.int .i64 0], .sl false [.int .i64 1], .int .i64 1, .clo 89 [.sl false [.sl true [.int .i64 1]]] []]], .agg [.int .i64 1, .int .i64 5, .sl true [.int .i64 0], .sl true [.int .i64 0], .sl true [.int .i64 3, .int .i64 0]]⟩
set_option maxRecDepth 100000 in
theorem r77 : Runs X1 q77 := by unfold Runs; decide +kernel
def q84 : Known := ⟨56, [.agg [.int .i64 10, .sl false [.agg [.int .i64 10, .int .i64 2, .sl true [.int .i64 4]], .agg [.int .i64 4, .int .i64 5, .sl true [.int .i64 8]]], .sl false [.int .i64 6], .sl false [.int .i64 8], .sl false [.int .i64 1], .sl false [.int .i64 0], .int .i64 4, .clo 89 [.sl false [.sl true [.int .i64 4]]] []]], .agg [.int .i64 4, .int .i64 0, .sl true [.int .i64 2], .sl true [.int .i64 0], .sl true [.int .i64 0, .int .i64 0]]⟩
set_option maxRecDepth 100000 in
theorem r84 : Runs X1 q84 := by unfold Runs; decide +kernel
def q96 : Known := ⟨56, [.agg [.int .i64 10, .sl false [.agg [.int .i64 10, .int .i64 2, .sl true [.int .i64 4]], .agg [.int .i64 4, .int .i64 5, .sl true [.int .i64 8]]], .sl false [.int .i64 6], .sl false [.int .i64 8], .sl false [.int .i64 1], .sl false [.int .i64 1], .int .i64 8, .clo 89 [.sl false [.sl true [.int .i64 8]]] []]], .agg [.int .i64 8, .int .i64 0, .sl true [.int .i64 5], .sl true [.int .i64 0], .sl true [.int .i64 4, .int .i64 0]]⟩
set_option maxRecDepth 100000 in
theorem r96 : Runs X1 q96 := by unfold Runs; decide +kernel
def q108 : Known := ⟨56, [.agg [.int .i64 10, .sl false [.agg [.int .i64 10, .int .i64 2, .sl true [.int .i64 4]], .agg [.int .i64 4, .int .i64 5, .sl true [.int .i64 8]]], .sl false [.int .i64 6], .sl false [.int .i64 8], .sl false [.int .i64 0, .int .i64 1], .sl false [.int .i64 0, .int .i64 1], .int .i64 4, .clo 89 [.sl false [.sl true [.int .i64 1, .int .i64 1], .sl true [.int .i64 4, .int .i64 8]]] []]], .agg [.int .i64 4, .int .i64 (-4), .sl true [.int .i64 3], .sl true [.int .i64 0], .sl true [.int .i64 0, .int .i64 0]]⟩
set_option maxRecDepth 100000 in
theorem r108 : Runs X1 q108 := by unfold Runs; decide +kernel
def q123 : Known := ⟨58, [.agg [.int .i64 10, .sl false [.agg [.int .i64 10, .int .i64 2, .sl true [.int .i64 4]], .agg [.int .i64 4, .int .i64 5, .sl true [.int .i64 8]]], .sl false [.int .i64 6], .sl false [.int .i64 8], .sl false [], .sl false [], .int .i64 1, .clo 89 [.sl false []] []]], .tup [.agg [.int .i64 0, .int .i64 0, .sl true [], .sl true [], .sl true []], .bool false]⟩
set_option maxRecDepth 100000 in
theorem r123 : Runs X1 q123 := by unfold Runs; decide +kernel
def q126 : Known := ⟨58, [.agg [.int .i64 10, .sl false [.agg [.int .i64 10, .int .i64 2, .sl true [.int .i64 4]], .agg [.int .i64 4, .int .i64 5, .sl true [.int .i64 8]]], .sl false [.int .i64 6], .sl false [.int .i64 8], .sl false [.int .i64 0], .sl false [.int .i64 0], .int .i64 1, .clo 89 [.sl false [.sl true [.int .i64 1]]] []]], .tup [.agg [.int .i64 1, .int .i64 (-4), .sl true [.int .i64 1], .sl true [.int .i64 0], .sl true [.int .i64 0, .int .i64 4]], .bool true]⟩
set_option maxRecDepth 100000 in
theorem r126 : Runs X1 q126 := by unfold Runs; decide +kernel
def knownF : List Known := [q1, q14, q20, q26, q38, q51, q58, q70, q77, q84, q96, q108, q123, q126]
theorem rightF : AllRun X1 knownF := allRun_cons r1 (allRun_cons r14 (allRun_cons r20 (allRun_cons r26 (allRun_cons r38 (allRun_cons r51 (allRun_cons r58 (allRun_cons r70 (allRun_cons r77 (allRun_cons r84 (allRun_cons r96 (allRun_cons r108 (allRun_cons r123 (allRun_cons r126 (allRun_nil))))))))))))))
end Go.AM.E
end

section
/-
The machine's outside with the calls of the bases.
-/
namespace Go.AM.E
open Go Go.AM Go.RowKit Go.Proofs

def X2 : Ext := XK X1 (knownD ++ (knownE ++ knownF))
theorem rightDEF : Right (knownD ++ (knownE ++ knownF)) := right_app (allRun_right X1_ok rightD) (right_app (allRun_right X1_ok rightE) (allRun_right X1_ok rightF))
theorem X2_ok : ExtOk Try.prog X2 := XK_ok X1_ok rightDEF
end Go.AM.E
end

