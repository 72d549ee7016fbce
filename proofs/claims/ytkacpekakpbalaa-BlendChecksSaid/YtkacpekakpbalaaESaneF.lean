/-
Calls that the kernel has run.
-/
import Derived.Test.YtkacpekakpbalaaESaneC
set_option linter.unusedSimpArgs false

namespace Go.AM.E
open Go Go.AM Go.RowKit Go.Proofs

def q1 : Known := ⟨56, [.agg [.int .i64 10, .sl false [.agg [.int .i64 10, .int .i64 2, .sl true [.int .i64 4]], .agg [.int .i64 10, .int .i64 5, .sl true [.int .i64 8]]], .sl false [.int .i64 6], .sl false [.int .i64 8], .sl false [], .sl false [], .int .i64 1, .clo 89 [.sl false []] []]], .agg [.int .i64 1, .int .i64 0, .sl true [.int .i64 0], .sl true [.int .i64 0], .sl true [.int .i64 0, .int .i64 0]]⟩
set_option maxRecDepth 100000 in
theorem r1 : Runs X1 q1 := by unfold Runs; decide +kernel
def q14 : Known := ⟨56, [.agg [.int .i64 10, .sl false [.agg [.int .i64 10, .int .i64 2, .sl true [.int .i64 4]], .agg [.int .i64 10, .int .i64 5, .sl true [.int .i64 8]]], .sl false [.int .i64 6], .sl false [.int .i64 8], .sl false [.int .i64 0], .sl false [.int .i64 0], .int .i64 1, .clo 89 [.sl false [.sl true [.int .i64 1]]] []]], .agg [.int .i64 1, .int .i64 2, .sl true [.int .i64 0], .sl true [.int .i64 0], .sl true [.int .i64 0, .int .i64 0]]⟩
set_option maxRecDepth 100000 in
theorem r14 : Runs X1 q14 := by unfold Runs; decide +kernel
def q20 : Known := ⟨56, [.agg [.int .i64 10, .sl false [.agg [.int .i64 10, .int .i64 2, .sl true [.int .i64 4]], .agg [.int .i64 10, .int .i64 5, .sl true [.int .i64 8]]], .sl false [.int .i64 6], .sl false [.int .i64 8], .sl false [.int .i64 0], .sl false [.int .i64 1], .int .i64 1, .clo 89 [.sl false [.sl true [.int .i64 1]]] []]], .agg [.int .i64 1, .int .i64 5, .sl true [.int .i64 0], .sl true [.int .i64 0], .sl true [.int .i64 3, .int .i64 0]]⟩
set_option maxRecDepth 100000 in
theorem r20 : Runs X1 q20 := by unfold Runs; decide +kernel
def q26 : Known := ⟨56, [.agg [.int .i64 10, .sl false [.agg [.int .i64 10, .int .i64 2, .sl true [.int .i64 4]], .agg [.int .i64 10, .int .i64 5, .sl true [.int .i64 8]]], .sl false [.int .i64 6], .sl false [.int .i64 8], .sl false [.int .i64 1], .sl false [.int .i64 0], .int .i64 4, .clo 89 [.sl false [.sl true [.int .i64 4]]] []]], .agg [.int .i64 4, .int .i64 0, .sl true [.int .i64 2], .sl true [.int .i64 0], .sl true [.int .i64 0, .int .i64 0]]⟩
set_option maxRecDepth 100000 in
theorem r26 : Runs X1 q26 := by unfold Runs; decide +kernel
def q38 : Known := ⟨56, [.agg [.int .i64 10, .sl false [.agg [.int .i64 10, .int .i64 2, .sl true [.int .i64 4]], .agg [.int .i64 10, .int .i64 5, .sl true [.int .i64 8]]], .sl false [.int .i64 6], .sl false [.int .i64 8], .sl false [.int .i64 1], .sl false [.int .i64 1], .int .i64 8, .clo 89 [.sl false [.sl true [.int .i64 8]]] []]], .agg [.int .i64 8, .int .i64 0, .sl true [.int .i64 5], .sl true [.int .i64 0], .sl true [.int .i64 4, .int .i64 0]]⟩
set_option maxRecDepth 100000 in
theorem r38 : Runs X1 q38 := by unfold Runs; decide +kernel
def q51 : Known := ⟨56, [.agg [.int .i64 10, .sl false [.agg [.int .i64 10, .int .i64 2, .sl true [.int .i64 4]], .agg [.int .i64 10, .int .i64 5, .sl true [.int .i64 8]]], .sl false [.int .i64 6], .sl false [.int .i64 8], .sl false [.int .i64 0, .int .i64 1], .sl false [.int .i64 0, .int .i64 1], .int .i64 4, .clo 89 [.sl false [.sl true [.int .i64 1, .int .i64 1], .sl true [.int .i64 4, .int .i64 8]]] []]], .agg [.int .i64 4, .int .i64 (-4), .sl true [.int .i64 3], .sl true [.int .i64 0], .sl true [.int .i64 0, .int .i64 0]]⟩
set_option maxRecDepth 100000 in
theorem r51 : Runs X1 q51 := by unfold Runs; decide +kernel
def q58 : Known := ⟨56, [.agg [.int .i64 10, .sl false [.agg [.int .i64 10, .int .i64 2, .sl true [.int .i64 4]], .agg [.int .i64 4, .int .i64 5, .sl true [.int .i64 8]]], .sl false [.int .i64 6], .sl false [.int .i64 8], .sl false [], .sl false [], .int .i64 1, .clo 89 [.sl false []] []]], .agg [.int .i64 1, .int .i64 0, .sl true [.int .i64 0], .sl true [.int .i64 0], .sl true [.int .i64 0, .int .i64 0]]⟩
set_option maxRecDepth 100000 in
theorem r58 : Runs X1 q58 := by unfold Runs; decide +kernel
def q70 : Known := ⟨56, [.agg [.int .i64 10, .sl false [.agg [.int .i64 10, .int .i64 2, .sl true [.int .i64 4]], .agg [.int .i64 4, .int .i64 5, .sl true [.int .i64 8]]], .sl false [.int .i64 6], .sl false [.int .i64 8], .sl false [.int .i64 0], .sl false [.int .i64 0], .int .i64 1, .clo 89 [.sl false [.sl true [.int .i64 1]]] []]], .agg [.int .i64 1, .int .i64 2, .sl true [.int .i64 0], .sl true [.int .i64 0], .sl true [.int .i64 0, .int .i64 0]]⟩
set_option maxRecDepth 100000 in
theorem r70 : Runs X1 q70 := by unfold Runs; decide +kernel
def q77 : Known := ⟨56, [.agg [.int .i64 10, .sl false [.agg [.int .i64 10, .int .i64 2, .sl true [.int .i64 4]], .agg [.int .i64 4, .int .i64 5, .sl true [.int .i64 8]]], .sl false [.int .i64 6], .sl false [.int .i64 8], .sl false [.int .i64 0], .sl false [.int .i64 1], .int .i64 1, .clo 89 [.sl false [.sl true [.int .i64 1]]] []]], .agg [.int .i64 1, .int .i64 5, .sl true [.int .i64 0], .sl true [.int .i64 0], .sl true [.int .i64 3, .int .i64 0]]⟩
set_option maxRecDepth 100000 in
theorem r77 : Runs X1 q77 := by unfold Runs; decide +kernel
def q84 : Known := ⟨56, [.agg [.int .i64 10, .sl false [.agg [.int .i64 10, .int .i64 2, .sl true [.int .i64 4]], .agg [.int .i64 4, .int .i64 5, .sl true [.int .i64 8]]], .sl false [.int .i64 6], .sl false [.int .i64 8], .sl false [.int .i64 1], .sl false [.int .i64 0], .int .i64 4, .clo 89 [.sl false [.sl true [.int .i64 4]]] []]], .agg [.int .i64 4, .int .i64 0, .sl true [.int .i64 2], .sl true [.int .i64 0], .sl true [.int .i64 0, .int .i64 0]]⟩
set_option maxRecDepth 100000 in
theorem r84 : Runs X1 q84 := by unfold Runs; decide +kernel
def q96 : Known := ⟨56, [.agg [.int .i64 10, .sl false [.agg [.int .i64 10, .int .i64 2, .sl true [.int .i64 4]], .agg [.int .i64 4, .int .i64 5, .sl true [.int .i64 8]]], .sl false [.int .i64 6], .sl false [.int .i64 8], .sl false [.int .i64 1], .sl false [.int .i64 1], .int .i64 8, .clo 89 [.sl false [.sl true [.int .i64 8]]] []]], .agg [.int .i64 8, .int .i64 0, .sl true [.int .i64 5], .sl true [.int .i64 0], .sl true [.int .i64 4, .int .i64 0]]⟩
set_option maxRecDepth 100000 in
theorem r96 : Runs X1 q96 := by unfold Runs; decide +kernel
def q108 : Known := ⟨56, [.agg [.int .i64 10, .sl false [.agg [.int .i64 10, .int .i64 2, .sl true [.int .i64 4]], .agg [.int .i64 4, .int .i64 5, .sl true [.int .i64 8]]], .sl false [.int .i64 6], .sl false [.int .i64 8], .sl false [.int .i64 0, .int .i64 1], .sl false [.int .i64 0, .int .i64 1], .int .i64 4, .clo 89 [.sl false [.sl true [.int .i64 1, .int .i64 1], .sl true [.int .i64 4, .int .i64 8]]] []]], .agg [.int .i64 4, .int .i64 (-4), .sl true [.int .i64 3], .sl true [.int .i64 0], .sl true [.int .i64 0, .int .i64 0]]⟩
set_option maxRecDepth 100000 in
theorem r108 : Runs X1 q108 := by unfold Runs; decide +kernel
def q123 : Known := ⟨58, [.agg [.int .i64 10, .sl false [.agg [.int .i64 10, .int .i64 2, .sl true [.int .i64 4]], .agg [.int .i64 4, .int .i64 5, .sl true [.int .i64 8]]], .sl false [.int .i64 6], .sl false [.int .i64 8], .sl false [], .sl false [], .int .i64 1, .clo 89 [.sl false []] []]], .tup [.agg [.int .i64 0, .int .i64 0, .sl true [], .sl true [], .sl true []], .bool false]⟩
set_option maxRecDepth 100000 in
theorem r123 : Runs X1 q123 := by unfold Runs; decide +kernel
def q126 : Known := ⟨58, [.agg [.int .i64 10, .sl false [.agg [.int .i64 10, .int .i64 2, .sl true [.int .i64 4]], .agg [.int .i64 4, .int .i64 5, .sl true [.int .i64 8]]], .sl false [.int .i64 6], .sl false [.int .i64 8], .sl false [.int .i64 0], .sl false [.int .i64 0], .int .i64 1, .clo 89 [.sl false [.sl true [.int .i64 1]]] []]], .tup [.agg [.int .i64 1, .int .i64 (-4), .sl true [.int .i64 1], .sl true [.int .i64 0], .sl true [.int .i64 0, .int .i64 4]], .bool true]⟩
set_option maxRecDepth 100000 in
theorem r126 : Runs X1 q126 := by unfold Runs; decide +kernel
def knownF : List Known := [q1, q14, q20, q26, q38, q51, q58, q70, q77, q84, q96, q108, q123, q126]
theorem rightF : AllRun X1 knownF := allRun_cons r1 (allRun_cons r14 (allRun_cons r20 (allRun_cons r26 (allRun_cons r38 (allRun_cons r51 (allRun_cons r58 (allRun_cons r70 (allRun_cons r77 (allRun_cons r84 (allRun_cons r96 (allRun_cons r108 (allRun_cons r123 (allRun_cons r126 (allRun_nil))))))))))))))
end Go.AM.E
