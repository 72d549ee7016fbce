/-
Calls that the kernel has run.
-/
import Derived.Test.YtkacpekakpbalaaESaneJ
set_option linter.unusedSimpArgs false

namespace Go.AM.E
open Go Go.AM Go.RowKit Go.Proofs

def q136 : Known := ⟨20, [.agg [.int .i64 10, .sl false [.agg [.int .i64 10, .int .i64 2, .sl true [.int .i64 4]], .agg [.int .i64 10, .int .i64 5, .sl true [.int .i64 8]]], .sl false [.int .i64 6], .sl false [.int .i64 8]]], .tup [.agg [.int .i64 1, .int .i64 4, .sl true [.int .i64 20, .int .i64 20], .int .i64 4, .int .i64 (-4), .sl true [.int .i64 3], .sl true [.int .i64 0], .sl true [.int .i64 0, .int .i64 0]], .int .i64 0]⟩
set_option maxRecDepth 100000 in
theorem r136 : Runs X3 q136 := by unfold Runs; decide +kernel
def q137 : Known := ⟨20, [.agg [.int .i64 10, .sl false [.agg [.int .i64 10, .int .i64 2, .sl true [.int .i64 4]], .agg [.int .i64 4, .int .i64 5, .sl true [.int .i64 8]]], .sl false [.int .i64 6], .sl false [.int .i64 8]]], .tup [.agg [.int .i64 2, .int .i64 0, .sl true [], .int .i64 1, .int .i64 (-4), .sl true [.int .i64 1], .sl true [.int .i64 0], .sl true [.int .i64 0, .int .i64 4]], .int .i64 0]⟩
set_option maxRecDepth 100000 in
theorem r137 : Runs X3 q137 := by unfold Runs; decide +kernel
def knownL : List Known := [q136, q137]
theorem rightL : AllRun X3 knownL := allRun_cons r136 (allRun_cons r137 (allRun_nil))
def X4 : Ext := XK X3 knownL
theorem X4_ok : ExtOk Try.prog X4 := XK_ok X3_ok (allRun_right X3_ok rightL)
end Go.AM.E
