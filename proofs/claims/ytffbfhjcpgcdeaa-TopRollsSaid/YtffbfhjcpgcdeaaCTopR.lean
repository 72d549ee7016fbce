/-
TopRolls, the law.
-/
import Derived.Test.YtffbfhjcpgcdeaaCTopQ
set_option linter.unusedVariables false
set_option linter.unusedSimpArgs false
set_option maxRecDepth 20000

namespace Go.AM.C
open Go Go.Proofs

theorem okT15 : okCode (Try.f15.body.getD .skip) = true := by decide +kernel

structure Facts (xs : List Run) (l : List Art) (cs : List (Int × Int)) : Prop where
  k9 : (orcω E X0).call 33 [.sl false (xs.map encRun), .sl false (l.map encArt), .sl false (cs.map encPc)] = some (.tup [.int .i64 (sumP l cs), .int .i64 0])
  k10 : (orcω E X0).call 41 [.sl false (xs.map encRun), .sl false (l.map encArt), .sl false (cs.map encPc), .int .i64 0, .int .i64 1] = some (.tup [.sl true (cs.map (encRec (expand xs) l 0 1)), .int .i64 0])
  k11 : (orcω E X0).call 37 [.sl false (xs.map encRun), .sl false (l.map encArt), .sl false (cs.map encPc)] = some (.tup [.sl true ((wasteL l ((expand xs).length : Nat) 0 cs).map encSp), .int .i64 0])
  nv : (topW (expand xs) l < sumP l cs) = False
  wl : (wasteL l ((expand xs).length : Nat) 0 cs).length ≤ cs.length + 1
  fit : ∀ p ∈ cs, fitsM (expand xs) l p.1 p.2 = true

theorem facts_of {xs : List Run} {l : List Art} {cs : List (Int × Int)} (hx : xs.length ≤ 100000) (hl : l.length ≤ 100000) (hn : cs.length ≤ 100000) (he : errM xs l = 0) (hc : checkL (expand xs) l 0 cs = 0) : Facts xs l cs := by
  have k9 := c33 xs l cs hx hl hn
  have k10 := c41 xs l cs 0 1 hx hl hn
  have k11 := c37 xs l cs hx hl hn
  obtain ⟨sv1, sv2⟩ := value_cut he hc
  rw [sv1] at k9
  rw [recs_cut he hc] at k10
  rw [waste_cut he hc] at k11
  exact ⟨k9, k10, k11, eq_false (by omega), waste_len _ _ _ _, check_fits hc⟩

structure Sofar (ms : List Mk) (a : Int) (c : V × Bool × List Run) : Prop where
  r : Reads c.1 c.2.1 c.2.2
  a : Alls ms a c.2.2

end Go.AM.C

