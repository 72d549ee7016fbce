/-
Patterns on a floor.
-/
import Derived.Test.YtejjeckiplihbaaDPatP
import Derived.Test.YtejjeckiplihbaaDJobP
set_option linter.unusedSimpArgs false
set_option maxRecDepth 20000

namespace Go.AM.D
open Go Go.AM

structure Lay where
  p : Pat
  w : Int
  j : Job
  cuts : List Cut
def encLay (l : Lay) : V := .agg [.int .i64 l.p.w, .int .i64 l.p.s, .int .i64 l.p.h, .sl false (l.p.cs.map fun c => V.int .i64 c), .int .i64 l.w, .sl false (l.j.ss.map encStrip), .sl false (l.j.rs.map encRoll), .int .i64 l.j.rep, .sl false (l.cuts.map encCut)]
end Go.AM.D
