/-
The law's sanity check, run by the kernel.
-/
import Derived.Test.YtejjeckiplihbaaDBase
set_option linter.unusedSimpArgs false
set_option maxRecDepth 20000

namespace Go.AM.D
open Go Go.AM Go.Proofs

def saneJob : V := .agg [.sl false [encStrip ⟨0, 0, 8⟩, encStrip ⟨4, 0, 8⟩, encStrip ⟨8, 0, 8⟩], .sl false [.agg [.int .i64 20, .int .i64 0, .int .i64 0], .agg [.int .i64 10, .int .i64 0, .int .i64 0]], .int .i64 1]
def isTwo (r : Option V) : Bool := match r with
  | some (.tup [.sl t vs, .int .i64 n, .bool b, .int .i64 e]) => refFreeL vs && isNewL vs && t && decide (n = 2) && b && decide (e = 0)
  | _ => false

set_option maxRecDepth 100000 in
theorem fewest_runs : isTwo ((orc E X0 60).call 43 [saneJob]) = true := by decide +kernel
end Go.AM.D
