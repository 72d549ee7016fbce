/-
Calls that the kernel has run.
-/
import Derived.Test.YtkacpekakpbalaaESaneC
set_option linter.unusedSimpArgs false

namespace Go.AM.E
open Go Go.AM Go.RowKit Go.Proofs

def q60 : Known := ⟨92, [.agg [.int .i64 10, .sl false [.agg [.int .i64 10, .int .i64 2, .sl true [.int .i64 4]], .agg [.int .i64 4, .int .i64 5, .sl true [.int .i64 8]]], .sl false [.int .i64 6], .sl false [.int .i64 8], .sl false [], .sl false [], .int .i64 1, .clo 89 [.sl false []] []], .int .i64 0, .int .i64 0], .tup [.agg [.int .i64 1, .sl true [.int .i64 0, .int .i64 0]], .bool true]⟩
set_option maxRecDepth 100000 in
theorem r60 : Runs X1 q60 := by unfold Runs; decide +kernel
def q62 : Known := ⟨92, [.agg [.int .i64 10, .sl false [.agg [.int .i64 10, .int .i64 2, .sl true [.int .i64 4]], .agg [.int .i64 4, .int .i64 5, .sl true [.int .i64 8]]], .sl false [.int .i64 6], .sl false [.int .i64 8], .sl false [], .sl false [], .int .i64 1, .clo 89 [.sl false []] []], .int .i64 0, .int .i64 1], .tup [.agg [.int .i64 1, .sl true [.int .i64 10, .int .i64 0]], .bool true]⟩
set_option maxRecDepth 100000 in
theorem r62 : Runs X1 q62 := by unfold Runs; decide +kernel
def q64 : Known := ⟨92, [.agg [.int .i64 10, .sl false [.agg [.int .i64 10, .int .i64 2, .sl true [.int .i64 4]], .agg [.int .i64 4, .int .i64 5, .sl true [.int .i64 8]]], .sl false [.int .i64 6], .sl false [.int .i64 8], .sl false [], .sl false [], .int .i64 1, .clo 89 [.sl false []] []], .int .i64 0, .int .i64 2], .tup [.agg [.int .i64 1, .sl true [.int .i64 0, .int .i64 4]], .bool true]⟩
set_option maxRecDepth 100000 in
theorem r64 : Runs X1 q64 := by unfold Runs; decide +kernel
def q66 : Known := ⟨92, [.agg [.int .i64 10, .sl false [.agg [.int .i64 10, .int .i64 2, .sl true [.int .i64 4]], .agg [.int .i64 4, .int .i64 5, .sl true [.int .i64 8]]], .sl false [.int .i64 6], .sl false [.int .i64 8], .sl false [], .sl false [], .int .i64 1, .clo 89 [.sl false []] []], .int .i64 0, .int .i64 3], .tup [.agg [.int .i64 1, .sl true [.int .i64 10, .int .i64 4]], .bool true]⟩
set_option maxRecDepth 100000 in
theorem r66 : Runs X1 q66 := by unfold Runs; decide +kernel
def q72 : Known := ⟨92, [.agg [.int .i64 10, .sl false [.agg [.int .i64 10, .int .i64 2, .sl true [.int .i64 4]], .agg [.int .i64 4, .int .i64 5, .sl true [.int .i64 8]]], .sl false [.int .i64 6], .sl false [.int .i64 8], .sl false [.int .i64 0], .sl false [.int .i64 0], .int .i64 1, .clo 89 [.sl false [.sl true [.int .i64 1]]] []], .int .i64 0, .int .i64 0], .tup [.agg [.int .i64 1, .sl true [.int .i64 10, .int .i64 0]], .bool true]⟩
set_option maxRecDepth 100000 in
theorem r72 : Runs X1 q72 := by unfold Runs; decide +kernel
def q73 : Known := ⟨92, [.agg [.int .i64 10, .sl false [.agg [.int .i64 10, .int .i64 2, .sl true [.int .i64 4]], .agg [.int .i64 4, .int .i64 5, .sl true [.int .i64 8]]], .sl false [.int .i64 6], .sl false [.int .i64 8], .sl false [.int .i64 0], .sl false [.int .i64 0], .int .i64 1, .clo 89 [.sl false [.sl true [.int .i64 1]]] []], .int .i64 0, .int .i64 2], .tup [.agg [.int .i64 1, .sl true [.int .i64 6, .int .i64 4]], .bool true]⟩
set_option maxRecDepth 100000 in
theorem r73 : Runs X1 q73 := by unfold Runs; decide +kernel
def q79 : Known := ⟨92, [.agg [.int .i64 10, .sl false [.agg [.int .i64 10, .int .i64 2, .sl true [.int .i64 4]], .agg [.int .i64 4, .int .i64 5, .sl true [.int .i64 8]]], .sl false [.int .i64 6], .sl false [.int .i64 8], .sl false [.int .i64 0], .sl false [.int .i64 1], .int .i64 1, .clo 89 [.sl false [.sl true [.int .i64 1]]] []], .int .i64 0, .int .i64 0], .tup [.agg [.int .i64 1, .sl true [.int .i64 0, .int .i64 10]], .bool true]⟩
set_option maxRecDepth 100000 in
theorem r79 : Runs X1 q79 := by unfold Runs; decide +kernel
def q81 : Known := ⟨92, [.agg [.int .i64 10, .sl false [.agg [.int .i64 10, .int .i64 2, .sl true [.int .i64 4]], .agg [.int .i64 4, .int .i64 5, .sl true [.int .i64 8]]], .sl false [.int .i64 6], .sl false [.int .i64 8], .sl false [.int .i64 0], .sl false [.int .i64 1], .int .i64 1, .clo 89 [.sl false [.sl true [.int .i64 1]]] []], .int .i64 0, .int .i64 1], .tup [.agg [.int .i64 1, .sl true [.int .i64 10, .int .i64 0]], .bool true]⟩
set_option maxRecDepth 100000 in
theorem r81 : Runs X1 q81 := by unfold Runs; decide +kernel
def q86 : Known := ⟨92, [.agg [.int .i64 10, .sl false [.agg [.int .i64 10, .int .i64 2, .sl true [.int .i64 4]], .agg [.int .i64 4, .int .i64 5, .sl true [.int .i64 8]]], .sl false [.int .i64 6], .sl false [.int .i64 8], .sl false [.int .i64 1], .sl false [.int .i64 0], .int .i64 4, .clo 89 [.sl false [.sl true [.int .i64 4]]] []], .int .i64 0, .int .i64 0], .tup [.agg [.int .i64 4, .sl true [.int .i64 60, .int .i64 0]], .bool true]⟩
set_option maxRecDepth 100000 in
theorem r86 : Runs X1 q86 := by unfold Runs; decide +kernel
def q88 : Known := ⟨92, [.agg [.int .i64 10, .sl false [.agg [.int .i64 10, .int .i64 2, .sl true [.int .i64 4]], .agg [.int .i64 4, .int .i64 5, .sl true [.int .i64 8]]], .sl false [.int .i64 6], .sl false [.int .i64 8], .sl false [.int .i64 1], .sl false [.int .i64 0], .int .i64 4, .clo 89 [.sl false [.sl true [.int .i64 4]]] []], .int .i64 0, .int .i64 2], .tup [.agg [.int .i64 4, .sl true [.int .i64 28, .int .i64 16]], .bool true]⟩
set_option maxRecDepth 100000 in
theorem r88 : Runs X1 q88 := by unfold Runs; decide +kernel
def q90 : Known := ⟨92, [.agg [.int .i64 10, .sl false [.agg [.int .i64 10, .int .i64 2, .sl true [.int .i64 4]], .agg [.int .i64 4, .int .i64 5, .sl true [.int .i64 8]]], .sl false [.int .i64 6], .sl false [.int .i64 8], .sl false [.int .i64 1], .sl false [.int .i64 0], .int .i64 4, .clo 89 [.sl false [.sl true [.int .i64 4]]] []], .int .i64 2, .int .i64 0], .tup [.agg [.int .i64 4, .sl true [.int .i64 80, .int .i64 0]], .bool true]⟩
set_option maxRecDepth 100000 in
theorem r90 : Runs X1 q90 := by unfold Runs; decide +kernel
def q92 : Known := ⟨92, [.agg [.int .i64 10, .sl false [.agg [.int .i64 10, .int .i64 2, .sl true [.int .i64 4]], .agg [.int .i64 4, .int .i64 5, .sl true [.int .i64 8]]], .sl false [.int .i64 6], .sl false [.int .i64 8], .sl false [.int .i64 1], .sl false [.int .i64 0], .int .i64 4, .clo 89 [.sl false [.sl true [.int .i64 4]]] []], .int .i64 2, .int .i64 2], .tup [.agg [.int .i64 4, .sl true [.int .i64 48, .int .i64 16]], .bool true]⟩
set_option maxRecDepth 100000 in
theorem r92 : Runs X1 q92 := by unfold Runs; decide +kernel
def q98 : Known := ⟨92, [.agg [.int .i64 10, .sl false [.agg [.int .i64 10, .int .i64 2, .sl true [.int .i64 4]], .agg [.int .i64 4, .int .i64 5, .sl true [.int .i64 8]]], .sl false [.int .i64 6], .sl false [.int .i64 8], .sl false [.int .i64 1], .sl false [.int .i64 1], .int .i64 8, .clo 89 [.sl false [.sl true [.int .i64 8]]] []], .int .i64 0, .int .i64 0], .tup [.agg [.int .i64 8, .sl true [.int .i64 0, .int .i64 60]], .bool true]⟩
set_option maxRecDepth 100000 in
theorem r98 : Runs X1 q98 := by unfold Runs; decide +kernel
def q100 : Known := ⟨92, [.agg [.int .i64 10, .sl false [.agg [.int .i64 10, .int .i64 2, .sl true [.int .i64 4]], .agg [.int .i64 4, .int .i64 5, .sl true [.int .i64 8]]], .sl false [.int .i64 6], .sl false [.int .i64 8], .sl false [.int .i64 1], .sl false [.int .i64 1], .int .i64 8, .clo 89 [.sl false [.sl true [.int .i64 8]]] []], .int .i64 0, .int .i64 1], .tup [.agg [.int .i64 8, .sl true [.int .i64 80, .int .i64 20]], .bool true]⟩
set_option maxRecDepth 100000 in
theorem r100 : Runs X1 q100 := by unfold Runs; decide +kernel
def q102 : Known := ⟨92, [.agg [.int .i64 10, .sl false [.agg [.int .i64 10, .int .i64 2, .sl true [.int .i64 4]], .agg [.int .i64 4, .int .i64 5, .sl true [.int .i64 8]]], .sl false [.int .i64 6], .sl false [.int .i64 8], .sl false [.int .i64 1], .sl false [.int .i64 1], .int .i64 8, .clo 89 [.sl false [.sl true [.int .i64 8]]] []], .int .i64 2, .int .i64 0], .tup [.agg [.int .i64 8, .sl true [.int .i64 0, .int .i64 80]], .bool true]⟩
set_option maxRecDepth 100000 in
theorem r102 : Runs X1 q102 := by unfold Runs; decide +kernel
def q104 : Known := ⟨92, [.agg [.int .i64 10, .sl false [.agg [.int .i64 10, .int .i64 2, .sl true [.int .i64 4]], .agg [.int .i64 4, .int .i64 5, .sl true [.int .i64 8]]], .sl false [.int .i64 6], .sl false [.int .i64 8], .sl false [.int .i64 1], .sl false [.int .i64 1], .int .i64 8, .clo 89 [.sl false [.sl true [.int .i64 8]]] []], .int .i64 2, .int .i64 1], .tup [.agg [.int .i64 8, .sl true [.int .i64 80, .int .i64 40]], .bool true]⟩
set_option maxRecDepth 100000 in
theorem r104 : Runs X1 q104 := by unfold Runs; decide +kernel
def q110 : Known := ⟨92, [.agg [.int .i64 10, .sl false [.agg [.int .i64 10, .int .i64 2, .sl true [.int .i64 4]], .agg [.int .i64 4, .int .i64 5, .sl true [.int .i64 8]]], .sl false [.int .i64 6], .sl false [.int .i64 8], .sl false [.int .i64 0, .int .i64 1], .sl false [.int .i64 0, .int .i64 1], .int .i64 4, .clo 89 [.sl false [.sl true [.int .i64 1, .int .i64 1], .sl true [.int .i64 4, .int .i64 8]]] []], .int .i64 0, .int .i64 0], .tup [.agg [.int .i64 4, .sl true [.int .i64 20, .int .i64 20]], .bool true]⟩
set_option maxRecDepth 100000 in
theorem r110 : Runs X1 q110 := by unfold Runs; decide +kernel
def q112 : Known := ⟨92, [.agg [.int .i64 10, .sl false [.agg [.int .i64 10, .int .i64 2, .sl true [.int .i64 4]], .agg [.int .i64 4, .int .i64 5, .sl true [.int .i64 8]]], .sl false [.int .i64 6], .sl false [.int .i64 8], .sl false [.int .i64 0, .int .i64 1], .sl false [.int .i64 0, .int .i64 1], .int .i64 4, .clo 89 [.sl false [.sl true [.int .i64 1, .int .i64 1], .sl true [.int .i64 4, .int .i64 8]]] []], .int .i64 2, .int .i64 0], .tup [.agg [.int .i64 4, .sl true [.int .i64 0, .int .i64 40]], .bool true]⟩
set_option maxRecDepth 100000 in
theorem r112 : Runs X1 q112 := by unfold Runs; decide +kernel
def knownE : List Known := [q60, q62, q64, q66, q72, q73, q79, q81, q86, q88, q90, q92, q98, q100, q102, q104, q110, q112]
theorem rightE : AllRun X1 knownE := allRun_cons r60 (allRun_cons r62 (allRun_cons r64 (allRun_cons r66 (allRun_cons r72 (allRun_cons r73 (allRun_cons r79 (allRun_cons r81 (allRun_cons r86 (allRun_cons r88 (allRun_cons r90 (allRun_cons r92 (allRun_cons r98 (allRun_cons r100 (allRun_cons r102 (allRun_cons r104 (allRun_cons r110 (allRun_cons r112 (allRun_nil))))))))))))))))))
end Go.AM.E
