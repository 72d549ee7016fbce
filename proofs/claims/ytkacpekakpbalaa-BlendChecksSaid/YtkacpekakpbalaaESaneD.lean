/-
Calls that the kernel has run.
-/
import Derived.Test.YtkacpekakpbalaaESaneC
set_option linter.unusedSimpArgs false

namespace Go.AM.E
open Go Go.AM Go.RowKit Go.Proofs

def q3 : Known := ⟨92, [.agg [.int .i64 10, .sl false [.agg [.int .i64 10, .int .i64 2, .sl true [.int .i64 4]], .agg [.int .i64 10, .int .i64 5, .sl true [.int .i64 8]]], .sl false [.int .i64 6], .sl false [.int .i64 8], .sl false [], .sl false [], .int .i64 1, .clo 89 [.sl false []] []], .int .i64 0, .int .i64 0], .tup [.agg [.int .i64 1, .sl true [.int .i64 0, .int .i64 0]], .bool true]⟩
set_option maxRecDepth 100000 in
theorem r3 : Runs X1 q3 := by unfold Runs; decide +kernel
def q5 : Known := ⟨92, [.agg [.int .i64 10, .sl false [.agg [.int .i64 10, .int .i64 2, .sl true [.int .i64 4]], .agg [.int .i64 10, .int .i64 5, .sl true [.int .i64 8]]], .sl false [.int .i64 6], .sl false [.int .i64 8], .sl false [], .sl false [], .int .i64 1, .clo 89 [.sl false []] []], .int .i64 0, .int .i64 1], .tup [.agg [.int .i64 1, .sl true [.int .i64 10, .int .i64 0]], .bool true]⟩
set_option maxRecDepth 100000 in
theorem r5 : Runs X1 q5 := by unfold Runs; decide +kernel
def q7 : Known := ⟨92, [.agg [.int .i64 10, .sl false [.agg [.int .i64 10, .int .i64 2, .sl true [.int .i64 4]], .agg [.int .i64 10, .int .i64 5, .sl true [.int .i64 8]]], .sl false [.int .i64 6], .sl false [.int .i64 8], .sl false [], .sl false [], .int .i64 1, .clo 89 [.sl false []] []], .int .i64 0, .int .i64 2], .tup [.agg [.int .i64 1, .sl true [.int .i64 0, .int .i64 10]], .bool true]⟩
set_option maxRecDepth 100000 in
theorem r7 : Runs X1 q7 := by unfold Runs; decide +kernel
def q10 : Known := ⟨92, [.agg [.int .i64 10, .sl false [.agg [.int .i64 10, .int .i64 2, .sl true [.int .i64 4]], .agg [.int .i64 10, .int .i64 5, .sl true [.int .i64 8]]], .sl false [.int .i64 6], .sl false [.int .i64 8], .sl false [], .sl false [], .int .i64 1, .clo 89 [.sl false []] []], .int .i64 0, .int .i64 3], .tup [.agg [.int .i64 1, .sl true [.int .i64 10, .int .i64 10]], .bool true]⟩
set_option maxRecDepth 100000 in
theorem r10 : Runs X1 q10 := by unfold Runs; decide +kernel
def q16 : Known := ⟨92, [.agg [.int .i64 10, .sl false [.agg [.int .i64 10, .int .i64 2, .sl true [.int .i64 4]], .agg [.int .i64 10, .int .i64 5, .sl true [.int .i64 8]]], .sl false [.int .i64 6], .sl false [.int .i64 8], .sl false [.int .i64 0], .sl false [.int .i64 0], .int .i64 1, .clo 89 [.sl false [.sl true [.int .i64 1]]] []], .int .i64 0, .int .i64 0], .tup [.agg [.int .i64 1, .sl true [.int .i64 10, .int .i64 0]], .bool true]⟩
set_option maxRecDepth 100000 in
theorem r16 : Runs X1 q16 := by unfold Runs; decide +kernel
def q17 : Known := ⟨92, [.agg [.int .i64 10, .sl false [.agg [.int .i64 10, .int .i64 2, .sl true [.int .i64 4]], .agg [.int .i64 10, .int .i64 5, .sl true [.int .i64 8]]], .sl false [.int .i64 6], .sl false [.int .i64 8], .sl false [.int .i64 0], .sl false [.int .i64 0], .int .i64 1, .clo 89 [.sl false [.sl true [.int .i64 1]]] []], .int .i64 0, .int .i64 2], .tup [.agg [.int .i64 1, .sl true [.int .i64 0, .int .i64 10]], .bool true]⟩
set_option maxRecDepth 100000 in
theorem r17 : Runs X1 q17 := by unfold Runs; decide +kernel
def q22 : Known := ⟨92, [.agg [.int .i64 10, .sl false [.agg [.int .i64 10, .int .i64 2, .sl true [.int .i64 4]], .agg [.int .i64 10, .int .i64 5, .sl true [.int .i64 8]]], .sl false [.int .i64 6], .sl false [.int .i64 8], .sl false [.int .i64 0], .sl false [.int .i64 1], .int .i64 1, .clo 89 [.sl false [.sl true [.int .i64 1]]] []], .int .i64 0, .int .i64 0], .tup [.agg [.int .i64 1, .sl true [.int .i64 0, .int .i64 10]], .bool true]⟩
set_option maxRecDepth 100000 in
theorem r22 : Runs X1 q22 := by unfold Runs; decide +kernel
def q23 : Known := ⟨92, [.agg [.int .i64 10, .sl false [.agg [.int .i64 10, .int .i64 2, .sl true [.int .i64 4]], .agg [.int .i64 10, .int .i64 5, .sl true [.int .i64 8]]], .sl false [.int .i64 6], .sl false [.int .i64 8], .sl false [.int .i64 0], .sl false [.int .i64 1], .int .i64 1, .clo 89 [.sl false [.sl true [.int .i64 1]]] []], .int .i64 0, .int .i64 1], .tup [.agg [.int .i64 1, .sl true [.int .i64 10, .int .i64 0]], .bool true]⟩
set_option maxRecDepth 100000 in
theorem r23 : Runs X1 q23 := by unfold Runs; decide +kernel
def q28 : Known := ⟨92, [.agg [.int .i64 10, .sl false [.agg [.int .i64 10, .int .i64 2, .sl true [.int .i64 4]], .agg [.int .i64 10, .int .i64 5, .sl true [.int .i64 8]]], .sl false [.int .i64 6], .sl false [.int .i64 8], .sl false [.int .i64 1], .sl false [.int .i64 0], .int .i64 4, .clo 89 [.sl false [.sl true [.int .i64 4]]] []], .int .i64 0, .int .i64 0], .tup [.agg [.int .i64 4, .sl true [.int .i64 60, .int .i64 0]], .bool true]⟩
set_option maxRecDepth 100000 in
theorem r28 : Runs X1 q28 := by unfold Runs; decide +kernel
def q30 : Known := ⟨92, [.agg [.int .i64 10, .sl false [.agg [.int .i64 10, .int .i64 2, .sl true [.int .i64 4]], .agg [.int .i64 10, .int .i64 5, .sl true [.int .i64 8]]], .sl false [.int .i64 6], .sl false [.int .i64 8], .sl false [.int .i64 1], .sl false [.int .i64 0], .int .i64 4, .clo 89 [.sl false [.sl true [.int .i64 4]]] []], .int .i64 0, .int .i64 2], .tup [.agg [.int .i64 0, .sl true []], .bool false]⟩
set_option maxRecDepth 100000 in
theorem r30 : Runs X1 q30 := by unfold Runs; decide +kernel
def q31 : Known := ⟨92, [.agg [.int .i64 10, .sl false [.agg [.int .i64 10, .int .i64 2, .sl true [.int .i64 4]], .agg [.int .i64 10, .int .i64 5, .sl true [.int .i64 8]]], .sl false [.int .i64 6], .sl false [.int .i64 8], .sl false [.int .i64 1], .sl false [.int .i64 0], .int .i64 4, .clo 89 [.sl false [.sl true [.int .i64 4]]] []], .int .i64 2, .int .i64 0], .tup [.agg [.int .i64 4, .sl true [.int .i64 80, .int .i64 0]], .bool true]⟩
set_option maxRecDepth 100000 in
theorem r31 : Runs X1 q31 := by unfold Runs; decide +kernel
def q33 : Known := ⟨92, [.agg [.int .i64 10, .sl false [.agg [.int .i64 10, .int .i64 2, .sl true [.int .i64 4]], .agg [.int .i64 10, .int .i64 5, .sl true [.int .i64 8]]], .sl false [.int .i64 6], .sl false [.int .i64 8], .sl false [.int .i64 1], .sl false [.int .i64 0], .int .i64 4, .clo 89 [.sl false [.sl true [.int .i64 4]]] []], .int .i64 2, .int .i64 2], .tup [.agg [.int .i64 4, .sl true [.int .i64 0, .int .i64 40]], .bool true]⟩
set_option maxRecDepth 100000 in
theorem r33 : Runs X1 q33 := by unfold Runs; decide +kernel
def q40 : Known := ⟨92, [.agg [.int .i64 10, .sl false [.agg [.int .i64 10, .int .i64 2, .sl true [.int .i64 4]], .agg [.int .i64 10, .int .i64 5, .sl true [.int .i64 8]]], .sl false [.int .i64 6], .sl false [.int .i64 8], .sl false [.int .i64 1], .sl false [.int .i64 1], .int .i64 8, .clo 89 [.sl false [.sl true [.int .i64 8]]] []], .int .i64 0, .int .i64 0], .tup [.agg [.int .i64 8, .sl true [.int .i64 0, .int .i64 60]], .bool true]⟩
set_option maxRecDepth 100000 in
theorem r40 : Runs X1 q40 := by unfold Runs; decide +kernel
def q42 : Known := ⟨92, [.agg [.int .i64 10, .sl false [.agg [.int .i64 10, .int .i64 2, .sl true [.int .i64 4]], .agg [.int .i64 10, .int .i64 5, .sl true [.int .i64 8]]], .sl false [.int .i64 6], .sl false [.int .i64 8], .sl false [.int .i64 1], .sl false [.int .i64 1], .int .i64 8, .clo 89 [.sl false [.sl true [.int .i64 8]]] []], .int .i64 0, .int .i64 1], .tup [.agg [.int .i64 8, .sl true [.int .i64 80, .int .i64 20]], .bool true]⟩
set_option maxRecDepth 100000 in
theorem r42 : Runs X1 q42 := by unfold Runs; decide +kernel
def q44 : Known := ⟨92, [.agg [.int .i64 10, .sl false [.agg [.int .i64 10, .int .i64 2, .sl true [.int .i64 4]], .agg [.int .i64 10, .int .i64 5, .sl true [.int .i64 8]]], .sl false [.int .i64 6], .sl false [.int .i64 8], .sl false [.int .i64 1], .sl false [.int .i64 1], .int .i64 8, .clo 89 [.sl false [.sl true [.int .i64 8]]] []], .int .i64 2, .int .i64 0], .tup [.agg [.int .i64 8, .sl true [.int .i64 0, .int .i64 80]], .bool true]⟩
set_option maxRecDepth 100000 in
theorem r44 : Runs X1 q44 := by unfold Runs; decide +kernel
def q47 : Known := ⟨92, [.agg [.int .i64 10, .sl false [.agg [.int .i64 10, .int .i64 2, .sl true [.int .i64 4]], .agg [.int .i64 10, .int .i64 5, .sl true [.int .i64 8]]], .sl false [.int .i64 6], .sl false [.int .i64 8], .sl false [.int .i64 1], .sl false [.int .i64 1], .int .i64 8, .clo 89 [.sl false [.sl true [.int .i64 8]]] []], .int .i64 2, .int .i64 1], .tup [.agg [.int .i64 8, .sl true [.int .i64 80, .int .i64 40]], .bool true]⟩
set_option maxRecDepth 100000 in
theorem r47 : Runs X1 q47 := by unfold Runs; decide +kernel
def q53 : Known := ⟨92, [.agg [.int .i64 10, .sl false [.agg [.int .i64 10, .int .i64 2, .sl true [.int .i64 4]], .agg [.int .i64 10, .int .i64 5, .sl true [.int .i64 8]]], .sl false [.int .i64 6], .sl false [.int .i64 8], .sl false [.int .i64 0, .int .i64 1], .sl false [.int .i64 0, .int .i64 1], .int .i64 4, .clo 89 [.sl false [.sl true [.int .i64 1, .int .i64 1], .sl true [.int .i64 4, .int .i64 8]]] []], .int .i64 0, .int .i64 0], .tup [.agg [.int .i64 4, .sl true [.int .i64 20, .int .i64 20]], .bool true]⟩
set_option maxRecDepth 100000 in
theorem r53 : Runs X1 q53 := by unfold Runs; decide +kernel
def knownD : List Known := [q3, q5, q7, q10, q16, q17, q22, q23, q28, q30, q31, q33, q40, q42, q44, q47, q53]
theorem rightD : AllRun X1 knownD := allRun_cons r3 (allRun_cons r5 (allRun_cons r7 (allRun_cons r10 (allRun_cons r16 (allRun_cons r17 (allRun_cons r22 (allRun_cons r23 (allRun_cons r28 (allRun_cons r30 (allRun_cons r31 (allRun_cons r33 (allRun_cons r40 (allRun_cons r42 (allRun_cons r44 (allRun_cons r47 (allRun_cons r53 (allRun_nil)))))))))))))))))
end Go.AM.E
