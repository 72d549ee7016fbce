/-
Calls that the kernel has run.
-/
import Derived.Test.YtkacpekakpbalaaESaneG
set_option linter.unusedSimpArgs false

namespace Go.AM.E
open Go Go.AM Go.RowKit Go.Proofs

def q12 : Known := ⟨57, [.agg [.int .i64 10, .sl false [.agg [.int .i64 10, .int .i64 2, .sl true [.int .i64 4]], .agg [.int .i64 10, .int .i64 5, .sl true [.int .i64 8]]], .sl false [.int .i64 6], .sl false [.int .i64 8], .sl false [], .sl false [], .int .i64 1, .clo 89 [.sl false []] []], .agg [.int .i64 1, .int .i64 0, .sl false [.int .i64 0], .sl false [.int .i64 0], .sl false [.int .i64 0, .int .i64 0]]], .tup [.agg [.int .i64 0, .sl true []], .bool false]⟩
set_option maxRecDepth 100000 in
theorem r12 : Runs X2 q12 := by unfold Runs; decide +kernel
def q18 : Known := ⟨57, [.agg [.int .i64 10, .sl false [.agg [.int .i64 10, .int .i64 2, .sl true [.int .i64 4]], .agg [.int .i64 10, .int .i64 5, .sl true [.int .i64 8]]], .sl false [.int .i64 6], .sl false [.int .i64 8], .sl false [.int .i64 0], .sl false [.int .i64 0], .int .i64 1, .clo 89 [.sl false [.sl true [.int .i64 1]]] []], .agg [.int .i64 1, .int .i64 2, .sl false [.int .i64 0], .sl false [.int .i64 0], .sl false [.int .i64 0, .int .i64 0]]], .tup [.agg [.int .i64 0, .sl true []], .bool false]⟩
set_option maxRecDepth 100000 in
theorem r18 : Runs X2 q18 := by unfold Runs; decide +kernel
def q24 : Known := ⟨57, [.agg [.int .i64 10, .sl false [.agg [.int .i64 10, .int .i64 2, .sl true [.int .i64 4]], .agg [.int .i64 10, .int .i64 5, .sl true [.int .i64 8]]], .sl false [.int .i64 6], .sl false [.int .i64 8], .sl false [.int .i64 0], .sl false [.int .i64 1], .int .i64 1, .clo 89 [.sl false [.sl true [.int .i64 1]]] []], .agg [.int .i64 1, .int .i64 5, .sl false [.int .i64 0], .sl false [.int .i64 0], .sl false [.int .i64 3, .int .i64 0]]], .tup [.agg [.int .i64 0, .sl true []], .bool false]⟩
set_option maxRecDepth 100000 in
theorem r24 : Runs X2 q24 := by unfold Runs; decide +kernel
def q36 : Known := ⟨57, [.agg [.int .i64 10, .sl false [.agg [.int .i64 10, .int .i64 2, .sl true [.int .i64 4]], .agg [.int .i64 10, .int .i64 5, .sl true [.int .i64 8]]], .sl false [.int .i64 6], .sl false [.int .i64 8], .sl false [.int .i64 1], .sl false [.int .i64 0], .int .i64 4, .clo 89 [.sl false [.sl true [.int .i64 4]]] []], .agg [.int .i64 4, .int .i64 0, .sl false [.int .i64 2], .sl false [.int .i64 0], .sl false [.int .i64 0, .int .i64 0]]], .tup [.agg [.int .i64 0, .sl true []], .bool false]⟩
set_option maxRecDepth 100000 in
theorem r36 : Runs X2 q36 := by unfold Runs; decide +kernel
def q49 : Known := ⟨57, [.agg [.int .i64 10, .sl false [.agg [.int .i64 10, .int .i64 2, .sl true [.int .i64 4]], .agg [.int .i64 10, .int .i64 5, .sl true [.int .i64 8]]], .sl false [.int .i64 6], .sl false [.int .i64 8], .sl false [.int .i64 1], .sl false [.int .i64 1], .int .i64 8, .clo 89 [.sl false [.sl true [.int .i64 8]]] []], .agg [.int .i64 8, .int .i64 0, .sl false [.int .i64 5], .sl false [.int .i64 0], .sl false [.int .i64 4, .int .i64 0]]], .tup [.agg [.int .i64 0, .sl true []], .bool false]⟩
set_option maxRecDepth 100000 in
theorem r49 : Runs X2 q49 := by unfold Runs; decide +kernel
def q56 : Known := ⟨57, [.agg [.int .i64 10, .sl false [.agg [.int .i64 10, .int .i64 2, .sl true [.int .i64 4]], .agg [.int .i64 10, .int .i64 5, .sl true [.int .i64 8]]], .sl false [.int .i64 6], .sl false [.int .i64 8], .sl false [.int .i64 0, .int .i64 1], .sl false [.int .i64 0, .int .i64 1], .int .i64 4, .clo 89 [.sl false [.sl true [.int .i64 1, .int .i64 1], .sl true [.int .i64 4, .int .i64 8]]] []], .agg [.int .i64 4, .int .i64 (-4), .sl false [.int .i64 3], .sl false [.int .i64 0], .sl false [.int .i64 0, .int .i64 0]]], .tup [.agg [.int .i64 4, .sl true [.int .i64 20, .int .i64 20]], .bool true]⟩
set_option maxRecDepth 100000 in
theorem r56 : Runs X2 q56 := by unfold Runs; decide +kernel
def q68 : Known := ⟨57, [.agg [.int .i64 10, .sl false [.agg [.int .i64 10, .int .i64 2, .sl true [.int .i64 4]], .agg [.int .i64 4, .int .i64 5, .sl true [.int .i64 8]]], .sl false [.int .i64 6], .sl false [.int .i64 8], .sl false [], .sl false [], .int .i64 1, .clo 89 [.sl false []] []], .agg [.int .i64 1, .int .i64 0, .sl false [.int .i64 0], .sl false [.int .i64 0], .sl false [.int .i64 0, .int .i64 0]]], .tup [.agg [.int .i64 0, .sl true []], .bool false]⟩
set_option maxRecDepth 100000 in
theorem r68 : Runs X2 q68 := by unfold Runs; decide +kernel
def q75 : Known := ⟨57, [.agg [.int .i64 10, .sl false [.agg [.int .i64 10, .int .i64 2, .sl true [.int .i64 4]], .agg [.int .i64 4, .int .i64 5, .sl true [.int .i64 8]]], .sl false [.int .i64 6], .sl false [.int .i64 8], .sl false [.int .i64 0], .sl false [.int .i64 0], .int .i64 1, .clo 89 [.sl false [.sl true [.int .i64 1]]] []], .agg [.int .i64 1, .int .i64 2, .sl false [.int .i64 0], .sl false [.int .i64 0], .sl false [.int .i64 0, .int .i64 0]]], .tup [.agg [.int .i64 0, .sl true []], .bool false]⟩
set_option maxRecDepth 100000 in
theorem r75 : Runs X2 q75 := by unfold Runs; decide +kernel
def q82 : Known := ⟨57, [.agg [.int .i64 10, .sl false [.agg [.int .i64 10, .int .i64 2, .sl true [.int .i64 4]], .agg [.int .i64 4, .int .i64 5, .sl true [.int .i64 8]]], .sl false [.int .i64 6], .sl false [.int .i64 8], .sl false [.int .i64 0], .sl false [.int .i64 1], .int .i64 1, .clo 89 [.sl false [.sl true [.int .i64 1]]] []], .agg [.int .i64 1, .int .i64 5, .sl false [.int .i64 0], .sl false [.int .i64 0], .sl false [.int .i64 3, .int .i64 0]]], .tup [.agg [.int .i64 0, .sl true []], .bool false]⟩
set_option maxRecDepth 100000 in
theorem r82 : Runs X2 q82 := by unfold Runs; decide +kernel
def q94 : Known := ⟨57, [.agg [.int .i64 10, .sl false [.agg [.int .i64 10, .int .i64 2, .sl true [.int .i64 4]], .agg [.int .i64 4, .int .i64 5, .sl true [.int .i64 8]]], .sl false [.int .i64 6], .sl false [.int .i64 8], .sl false [.int .i64 1], .sl false [.int .i64 0], .int .i64 4, .clo 89 [.sl false [.sl true [.int .i64 4]]] []], .agg [.int .i64 4, .int .i64 0, .sl false [.int .i64 2], .sl false [.int .i64 0], .sl false [.int .i64 0, .int .i64 0]]], .tup [.agg [.int .i64 0, .sl true []], .bool false]⟩
set_option maxRecDepth 100000 in
theorem r94 : Runs X2 q94 := by unfold Runs; decide +kernel
def q106 : Known := ⟨57, [.agg [.int .i64 10, .sl false [.agg [.int .i64 10, .int .i64 2, .sl true [.int .i64 4]], .agg [.int .i64 4, .int .i64 5, .sl true [.int .i64 8]]], .sl false [.int .i64 6], .sl false [.int .i64 8], .sl false [.int .i64 1], .sl false [.int .i64 1], .int .i64 8, .clo 89 [.sl false [.sl true [.int .i64 8]]] []], .agg [.int .i64 8, .int .i64 0, .sl false [.int .i64 5], .sl false [.int .i64 0], .sl false [.int .i64 4, .int .i64 0]]], .tup [.agg [.int .i64 0, .sl true []], .bool false]⟩
set_option maxRecDepth 100000 in
theorem r106 : Runs X2 q106 := by unfold Runs; decide +kernel
def q114 : Known := ⟨57, [.agg [.int .i64 10, .sl false [.agg [.int .i64 10, .int .i64 2, .sl true [.int .i64 4]], .agg [.int .i64 4, .int .i64 5, .sl true [.int .i64 8]]], .sl false [.int .i64 6], .sl false [.int .i64 8], .sl false [.int .i64 0, .int .i64 1], .sl false [.int .i64 0, .int .i64 1], .int .i64 4, .clo 89 [.sl false [.sl true [.int .i64 1, .int .i64 1], .sl true [.int .i64 4, .int .i64 8]]] []], .agg [.int .i64 4, .int .i64 (-4), .sl false [.int .i64 3], .sl false [.int .i64 0], .sl false [.int .i64 0, .int .i64 0]]], .tup [.agg [.int .i64 0, .sl true []], .bool false]⟩
set_option maxRecDepth 100000 in
theorem r114 : Runs X2 q114 := by unfold Runs; decide +kernel
def knownH : List Known := [q12, q18, q24, q36, q49, q56, q68, q75, q82, q94, q106, q114]
theorem rightH : AllRun X2 knownH := allRun_cons r12 (allRun_cons r18 (allRun_cons r24 (allRun_cons r36 (allRun_cons r49 (allRun_cons r56 (allRun_cons r68 (allRun_cons r75 (allRun_cons r82 (allRun_cons r94 (allRun_cons r106 (allRun_cons r114 (allRun_nil))))))))))))
end Go.AM.E
