/-
Calls that the kernel has run.
-/
import Derived.Test.YtkacpekakpbalaaESaneK
set_option linter.unusedSimpArgs false

namespace Go.AM.E
open Go Go.AM Go.RowKit Go.Proofs

def q0 : Known := ⟨90, [.agg [.int .i64 10, .sl false [.agg [.int .i64 10, .int .i64 2, .sl true [.int .i64 4]], .agg [.int .i64 10, .int .i64 5, .sl true [.int .i64 8]]], .sl false [.int .i64 6], .sl false [.int .i64 8]], .sl false [.int .i64 0, .int .i64 0], .int .i64 1, .bool true], .agg [.int .i64 1, .int .i64 0, .sl true [.int .i64 0], .sl true [.int .i64 0], .sl true [.int .i64 0, .int .i64 0]]⟩
set_option maxRecDepth 100000 in
theorem r0 : Runs X0 q0 := by unfold Runs; decide +kernel
def q13 : Known := ⟨90, [.agg [.int .i64 10, .sl false [.agg [.int .i64 10, .int .i64 2, .sl true [.int .i64 4]], .agg [.int .i64 10, .int .i64 5, .sl true [.int .i64 8]]], .sl false [.int .i64 6], .sl false [.int .i64 8]], .sl false [.int .i64 2, .int .i64 0], .int .i64 1, .bool true], .agg [.int .i64 1, .int .i64 2, .sl true [.int .i64 0], .sl true [.int .i64 0], .sl true [.int .i64 0, .int .i64 0]]⟩
set_option maxRecDepth 100000 in
theorem r13 : Runs X0 q13 := by unfold Runs; decide +kernel
def q19 : Known := ⟨90, [.agg [.int .i64 10, .sl false [.agg [.int .i64 10, .int .i64 2, .sl true [.int .i64 4]], .agg [.int .i64 10, .int .i64 5, .sl true [.int .i64 8]]], .sl false [.int .i64 6], .sl false [.int .i64 8]], .sl false [.int .i64 5, .int .i64 0], .int .i64 1, .bool true], .agg [.int .i64 1, .int .i64 5, .sl true [.int .i64 0], .sl true [.int .i64 0], .sl true [.int .i64 3, .int .i64 0]]⟩
set_option maxRecDepth 100000 in
theorem r19 : Runs X0 q19 := by unfold Runs; decide +kernel
def q25 : Known := ⟨90, [.agg [.int .i64 10, .sl false [.agg [.int .i64 10, .int .i64 2, .sl true [.int .i64 4]], .agg [.int .i64 10, .int .i64 5, .sl true [.int .i64 8]]], .sl false [.int .i64 6], .sl false [.int .i64 8]], .sl false [.int .i64 0, .int .i64 2], .int .i64 4, .bool true], .agg [.int .i64 4, .int .i64 0, .sl true [.int .i64 2], .sl true [.int .i64 0], .sl true [.int .i64 0, .int .i64 0]]⟩
set_option maxRecDepth 100000 in
theorem r25 : Runs X0 q25 := by unfold Runs; decide +kernel
def q37 : Known := ⟨90, [.agg [.int .i64 10, .sl false [.agg [.int .i64 10, .int .i64 2, .sl true [.int .i64 4]], .agg [.int .i64 10, .int .i64 5, .sl true [.int .i64 8]]], .sl false [.int .i64 6], .sl false [.int .i64 8]], .sl false [.int .i64 0, .int .i64 5], .int .i64 8, .bool true], .agg [.int .i64 8, .int .i64 0, .sl true [.int .i64 5], .sl true [.int .i64 0], .sl true [.int .i64 4, .int .i64 0]]⟩
set_option maxRecDepth 100000 in
theorem r37 : Runs X0 q37 := by unfold Runs; decide +kernel
def q50 : Known := ⟨90, [.agg [.int .i64 10, .sl false [.agg [.int .i64 10, .int .i64 2, .sl true [.int .i64 4]], .agg [.int .i64 10, .int .i64 5, .sl true [.int .i64 8]]], .sl false [.int .i64 6], .sl false [.int .i64 8]], .sl false [.int .i64 (-4), .int .i64 3], .int .i64 4, .bool true], .agg [.int .i64 4, .int .i64 (-4), .sl true [.int .i64 3], .sl true [.int .i64 0], .sl true [.int .i64 0, .int .i64 0]]⟩
set_option maxRecDepth 100000 in
theorem r50 : Runs X0 q50 := by unfold Runs; decide +kernel
def q57 : Known := ⟨90, [.agg [.int .i64 10, .sl false [.agg [.int .i64 10, .int .i64 2, .sl true [.int .i64 4]], .agg [.int .i64 4, .int .i64 5, .sl true [.int .i64 8]]], .sl false [.int .i64 6], .sl false [.int .i64 8]], .sl false [.int .i64 0, .int .i64 0], .int .i64 1, .bool true], .agg [.int .i64 1, .int .i64 0, .sl true [.int .i64 0], .sl true [.int .i64 0], .sl true [.int .i64 0, .int .i64 0]]⟩
set_option maxRecDepth 100000 in
theorem r57 : Runs X0 q57 := by unfold Runs; decide +kernel
def q69 : Known := ⟨90, [.agg [.int .i64 10, .sl false [.agg [.int .i64 10, .int .i64 2, .sl true [.int .i64 4]], .agg [.int .i64 4, .int .i64 5, .sl true [.int .i64 8]]], .sl false [.int .i64 6], .sl false [.int .i64 8]], .sl false [.int .i64 2, .int .i64 0], .int .i64 1, .bool true], .agg [.int .i64 1, .int .i64 2, .sl true [.int .i64 0], .sl true [.int .i64 0], .sl true [.int .i64 0, .int .i64 0]]⟩
set_option maxRecDepth 100000 in
theorem r69 : Runs X0 q69 := by unfold Runs; decide +kernel
def q76 : Known := ⟨90, [.agg [.int .i64 10, .sl false [.agg [.int .i64 10, .int .i64 2, .sl true [.int .i64 4]], .agg [.int .i64 4, .int .i64 5, .sl true [.int .i64 8]]], .sl false [.int .i64 6], .sl false [.int .i64 8]], .sl false [.int .i64 5, .int .i64 0], .int .i64 1, .bool true], .agg [.int .i64 1, .int .i64 5, .sl true [.int .i64 0], .sl true [.int .i64 0], .sl true [.int .i64 3, .int .i64 0]]⟩
set_option maxRecDepth 100000 in
theorem r76 : Runs X0 q76 := by unfold Runs; decide +kernel
def q83 : Known := ⟨90, [.agg [.int .i64 10, .sl false [.agg [.int .i64 10, .int .i64 2, .sl true [.int .i64 4]], .agg [.int .i64 4, .int .i64 5, .sl true [.int .i64 8]]], .sl false [.int .i64 6], .sl false [.int .i64 8]], .sl false [.int .i64 0, .int .i64 2], .int .i64 4, .bool true], .agg [.int .i64 4, .int .i64 0, .sl true [.int .i64 2], .sl true [.int .i64 0], .sl true [.int .i64 0, .int .i64 0]]⟩
set_option maxRecDepth 100000 in
theorem r83 : Runs X0 q83 := by unfold Runs; decide +kernel
def q95 : Known := ⟨90, [.agg [.int .i64 10, .sl false [.agg [.int .i64 10, .int .i64 2, .sl true [.int .i64 4]], .agg [.int .i64 4, .int .i64 5, .sl true [.int .i64 8]]], .sl false [.int .i64 6], .sl false [.int .i64 8]], .sl false [.int .i64 0, .int .i64 5], .int .i64 8, .bool true], .agg [.int .i64 8, .int .i64 0, .sl true [.int .i64 5], .sl true [.int .i64 0], .sl true [.int .i64 4, .int .i64 0]]⟩
set_option maxRecDepth 100000 in
theorem r95 : Runs X0 q95 := by unfold Runs; decide +kernel
def q107 : Known := ⟨90, [.agg [.int .i64 10, .sl false [.agg [.int .i64 10, .int .i64 2, .sl true [.int .i64 4]], .agg [.int .i64 4, .int .i64 5, .sl true [.int .i64 8]]], .sl false [.int .i64 6], .sl false [.int .i64 8]], .sl false [.int .i64 (-4), .int .i64 3], .int .i64 4, .bool true], .agg [.int .i64 4, .int .i64 (-4), .sl true [.int .i64 3], .sl true [.int .i64 0], .sl true [.int .i64 0, .int .i64 0]]⟩
set_option maxRecDepth 100000 in
theorem r107 : Runs X0 q107 := by unfold Runs; decide +kernel
def q115 : Known := ⟨90, [.agg [.int .i64 10, .sl false [.agg [.int .i64 10, .int .i64 2, .sl true [.int .i64 4]], .agg [.int .i64 4, .int .i64 5, .sl true [.int .i64 8]]], .sl false [.int .i64 6], .sl false [.int .i64 8]], .sl false [.int .i64 1, .int .i64 0], .int .i64 1, .bool false], .agg [.int .i64 1, .int .i64 1, .sl true [.int .i64 0], .sl true [.int .i64 0], .sl true [.int .i64 1, .int .i64 1]]⟩
set_option maxRecDepth 100000 in
theorem r115 : Runs X0 q115 := by unfold Runs; decide +kernel
def q117 : Known := ⟨90, [.agg [.int .i64 10, .sl false [.agg [.int .i64 10, .int .i64 2, .sl true [.int .i64 4]], .agg [.int .i64 4, .int .i64 5, .sl true [.int .i64 8]]], .sl false [.int .i64 6], .sl false [.int .i64 8]], .sl false [.int .i64 (-1), .int .i64 0], .int .i64 1, .bool false], .agg [.int .i64 1, .int .i64 (-1), .sl true [.int .i64 0], .sl true [.int .i64 0], .sl true [.int .i64 0, .int .i64 0]]⟩
set_option maxRecDepth 100000 in
theorem r117 : Runs X0 q117 := by unfold Runs; decide +kernel
def q119 : Known := ⟨90, [.agg [.int .i64 10, .sl false [.agg [.int .i64 10, .int .i64 2, .sl true [.int .i64 4]], .agg [.int .i64 4, .int .i64 5, .sl true [.int .i64 8]]], .sl false [.int .i64 6], .sl false [.int .i64 8]], .sl false [.int .i64 0, .int .i64 1], .int .i64 1, .bool false], .agg [.int .i64 1, .int .i64 0, .sl true [.int .i64 1], .sl true [.int .i64 0], .sl true [.int .i64 4, .int .i64 8]]⟩
set_option maxRecDepth 100000 in
theorem r119 : Runs X0 q119 := by unfold Runs; decide +kernel
def q121 : Known := ⟨90, [.agg [.int .i64 10, .sl false [.agg [.int .i64 10, .int .i64 2, .sl true [.int .i64 4]], .agg [.int .i64 4, .int .i64 5, .sl true [.int .i64 8]]], .sl false [.int .i64 6], .sl false [.int .i64 8]], .sl false [.int .i64 0, .int .i64 (-1)], .int .i64 1, .bool false], .agg [.int .i64 1, .int .i64 0, .sl true [.int .i64 0], .sl true [.int .i64 1], .sl true [.int .i64 0, .int .i64 0]]⟩
set_option maxRecDepth 100000 in
theorem r121 : Runs X0 q121 := by unfold Runs; decide +kernel
def q124 : Known := ⟨90, [.agg [.int .i64 10, .sl false [.agg [.int .i64 10, .int .i64 2, .sl true [.int .i64 4]], .agg [.int .i64 4, .int .i64 5, .sl true [.int .i64 8]]], .sl false [.int .i64 6], .sl false [.int .i64 8]], .sl false [.int .i64 (-4), .int .i64 1], .int .i64 1, .bool false], .agg [.int .i64 1, .int .i64 (-4), .sl true [.int .i64 1], .sl true [.int .i64 0], .sl true [.int .i64 0, .int .i64 4]]⟩
set_option maxRecDepth 100000 in
theorem r124 : Runs X0 q124 := by unfold Runs; decide +kernel
def knownB : List Known := [q0, q13, q19, q25, q37, q50, q57, q69, q76, q83, q95, q107, q115, q117, q119, q121, q124]
theorem rightB : AllRun X0 knownB := allRun_cons r0 (allRun_cons r13 (allRun_cons r19 (allRun_cons r25 (allRun_cons r37 (allRun_cons r50 (allRun_cons r57 (allRun_cons r69 (allRun_cons r76 (allRun_cons r83 (allRun_cons r95 (allRun_cons r107 (allRun_cons r115 (allRun_cons r117 (allRun_cons r119 (allRun_cons r121 (allRun_cons r124 (allRun_nil)))))))))))))))))
end Go.AM.E
