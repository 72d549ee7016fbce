/-
The share of a lot in itself; fractions that are whole.
-/
import Derived.Test.YteocppddjlglbaaFBalP
import Derived.Test.YteocppddjlglbaaFShareC
import Derived.Test.YteocppddjlglbaaAmBad
set_option linter.unusedVariables false
set_option linter.unusedSimpArgs false
set_option maxRecDepth 20000

namespace Go.AM.F
open Go Go.AM Go.Proofs

theorem inf3 : (drawn (Try.f3.body.getD .skip)).map infosOf = [[([], false), ([], false), ([], false), ([], false), ([], false), ([], false), ([], false), ([], false), ([], false), ([], false), ([], false), ([3, 4, 6, 7], false), ([], false), ([], true)], [([], false), ([], false), ([], false), ([], false), ([], false), ([], false), ([], false), ([], false), ([], true), ([], true), ([], true), ([], true), ([], true), ([], true), ([], true)]] := by decide +kernel
theorem okD3 : (drawn (Try.f3.body.getD .skip)).all okBad = true := by decide +kernel

def isOne (r : Option V) : Bool := match r with
  | some (.tup [.agg [.int k a, .int k' b], .int k'' c]) => k == .i64 && k' == .i64 && k'' == .i64 && a == 1 && b == 1 && c == 0
  | _ => false
theorem isOne_eq {r : Option V} (h : isOne r = true) : r = some (.tup [.agg [.int .i64 1, .int .i64 1], .int .i64 0]) := by
  unfold isOne at h
  split at h
  · simp only [Bool.and_eq_true, beq_iff_eq] at h
    obtain ⟨⟨⟨⟨⟨h1, h2⟩, h3⟩, h4⟩, h5⟩, h6⟩ := h
    rw [h1, h2, h3, h4, h5, h6]
  · cases h
theorem one_runs : isOne ((orc E X0 40).call 4 [.sl false [.agg [.int .i64 0, .int .i64 1, .emp]], .int .i64 0, .int .i64 0]) = true := by decide +kernel
theorem one_share : (orcω E X0).call 4 [.sl false [.agg [.int .i64 0, .int .i64 1, .emp]], .int .i64 0, .int .i64 0] = some (.tup [.agg [.int .i64 1, .int .i64 1], .int .i64 0]) := (orcω_le 40).call 4 _ _ (isOne_eq one_runs)

theorem one_of {r : Nat × Nat} {n : Nat} (hv : validN r.1 r.2 = true) (hn : n ≠ 0) (h : Fr r n n) : r = (1, 1) := by
  obtain ⟨⟨v1, v2⟩, v3, v4⟩ := validN_iff.1 hv
  unfold Fr at h
  have e : r.1 = r.2 := Nat.eq_of_mul_eq_mul_right (Nat.pos_of_ne_zero hn) (by rw [h, Nat.mul_comm])
  rw [e, Nat.gcd_self] at v4
  obtain ⟨a, b⟩ := r
  dsimp only at e v4
  rw [e, v4]
theorem whole_of {r : Nat × Nat} {n m : Nat} (hv : validN r.1 r.2 = true) (hn : n ≠ 0) (h : Fr r (n * m) n) : r.1 = m ∧ r.2 = 1 := by
  obtain ⟨⟨v1, v2⟩, v3, v4⟩ := validN_iff.1 hv
  unfold Fr at h
  have e : r.1 = m * r.2 := Nat.eq_of_mul_eq_mul_right (Nat.pos_of_ne_zero hn) (by rw [h]; ac_rfl)
  have hd : Nat.gcd r.1 r.2 = r.2 := Nat.gcd_eq_right ⟨m, by rw [e, Nat.mul_comm]⟩
  rw [hd] at v4
  rw [v4] at e
  exact ⟨by omega, v4⟩
def LawIs (l : List Lot) (o i : Nat) : Prop := (orcω E X0).call 3 [encLots l, .agg [.int .i64 (o : Int), .int .i64 (i : Int)]] = some (.bool true)

end Go.AM.F

