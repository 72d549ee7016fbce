/-
Goods and loads.
-/
import Derived.Test.YtbfgifolmpmagaaBWarm
set_option linter.unusedVariables false
set_option linter.unusedSimpArgs false

namespace Go.AM.B
open Go Go.AM Go.Proofs

structure Goods where
  poles : Int
  need : Int
  most : Int
  ready : Int
  due : Int
def encG (g : Goods) : V := .agg [.int .i64 g.poles, .int .i64 g.need, .int .i64 g.most, .int .i64 g.ready, .int .i64 g.due]

structure Load where
  loft : Int
  start : Int
  heats : List Int
  goods : List Int
def encLd (x : Load) : V := .agg [.int .i64 x.loft, .int .i64 x.start, .sl false (x.heats.map vI), .sl false (x.goods.map vI)]
end Go.AM.B

