/-
The equations of a choice of conditions (plain).
-/
import Derived.Test.YtkacpekakpbalaaEAmts
import Derived.Test.YtkacpekakpbalaaEDet
set_option linter.unusedVariables false
set_option linter.unusedSimpArgs false
set_option maxRecDepth 20000

namespace Go.AM.E
open Go

def eqTot (tot : Int) (cs : List Cem) (vc : List Int) : Nat → Int
  | 0 => tot
  | i + 1 => if vc.getD i 0 = 1 then eqTot tot cs vc i - (cs.getD i cem0).st else eqTot tot cs vc i
def eqOnes (vc : List Int) : Nat → List Int
  | 0 => []
  | i + 1 => if vc.getD i 0 = 2 then eqOnes vc i ++ [1] else eqOnes vc i
def eqWant (w : Int) (cs : List Cem) (vc : List Int) (k : Nat) : Nat → Int
  | 0 => w
  | i + 1 => if vc.getD i 0 = 1 then eqWant w cs vc k i - (cs.getD i cem0).ps.getD k 0 * (cs.getD i cem0).st else eqWant w cs vc k i
def eqRow (cs : List Cem) (vc : List Int) (k : Nat) : Nat → List Int
  | 0 => []
  | i + 1 => if vc.getD i 0 = 2 then eqRow cs vc k i ++ [(cs.getD i cem0).ps.getD k 0] else eqRow cs vc k i
def eqEdge (b : Blend) (vp : List Int) (k : Nat) : Int := if vp.getD k 0 = 2 then b.hi.getD k 0 * b.tot else b.lo.getD k 0 * b.tot
def eqRows (b : Blend) (vc vp : List Int) : Nat → List (List Int)
  | 0 => [eqOnes vc b.cs.length]
  | k + 1 => if vp.getD k 0 = 0 then eqRows b vc vp k else eqRows b vc vp k ++ [eqRow b.cs vc k b.cs.length]
def eqRight (b : Blend) (vc vp : List Int) : Nat → List Int
  | 0 => [eqTot b.tot b.cs vc b.cs.length]
  | k + 1 => if vp.getD k 0 = 0 then eqRight b vc vp k else eqRight b vc vp k ++ [eqWant (eqEdge b vp k) b.cs vc k b.cs.length]
theorem eqOnes_len (vc : List Int) : ∀ i, (eqOnes vc i).length ≤ i
  | 0 => by simp [eqOnes]
  | i + 1 => by have := eqOnes_len vc i; unfold eqOnes; split <;> simp <;> omega
theorem eqRow_len (cs : List Cem) (vc : List Int) (k : Nat) : ∀ i, (eqRow cs vc k i).length ≤ i
  | 0 => by simp [eqRow]
  | i + 1 => by have := eqRow_len cs vc k i; unfold eqRow; split <;> simp <;> omega
theorem eqRows_len (b : Blend) (vc vp : List Int) : ∀ i, (eqRows b vc vp i).length ≤ i + 1
  | 0 => by simp [eqRows]
  | i + 1 => by have := eqRows_len b vc vp i; unfold eqRows; split <;> simp <;> omega
theorem eqRight_len (b : Blend) (vc vp : List Int) : ∀ i, (eqRight b vc vp i).length = (eqRows b vc vp i).length
  | 0 => by simp [eqRows, eqRight]
  | i + 1 => by have := eqRight_len b vc vp i; unfold eqRows eqRight; split; exact this; simp; omega
theorem eqTot_in {tot : Int} {cs : List Cem} (vc : List Int) (ht : 1 ≤ tot ∧ tot ≤ 1000) (hs : ∀ c ∈ cs, 0 ≤ c.st ∧ c.st ≤ 1000) : ∀ i : Nat, i ≤ cs.length → -(1000 * (i : Int)) ≤ eqTot tot cs vc i ∧ eqTot tot cs vc i ≤ 1000
  | 0, _ => by simp [eqTot]; omega
  | i + 1, h => by
    have ih := eqTot_in vc ht hs i (by omega)
    have hc : cs[i]? = some cs[i] := List.getElem?_eq_getElem (by omega)
    have e : cs.getD i cem0 = cs[i] := by rw [List.getD_eq_getElem?_getD, hc]; rfl
    have := hs cs[i] (List.getElem_mem _)
    unfold eqTot
    rw [e]
    split <;> omega
theorem eqWant_in {w : Int} {cs : List Cem} (vc : List Int) (k : Nat) (hw : 0 ≤ w ∧ w ≤ 20000) (hs : ∀ c ∈ cs, 0 ≤ c.st ∧ c.st ≤ 1000) (hp : ∀ c ∈ cs, 0 ≤ c.ps.getD k 0 ∧ c.ps.getD k 0 ≤ 20) : ∀ i : Nat, i ≤ cs.length → -(20000 * (i : Int)) ≤ eqWant w cs vc k i ∧ eqWant w cs vc k i ≤ 20000
  | 0, _ => by simp [eqWant]; omega
  | i + 1, h => by
    have ih := eqWant_in vc k hw hs hp i (by omega)
    have hc : cs[i]? = some cs[i] := List.getElem?_eq_getElem (by omega)
    have e : cs.getD i cem0 = cs[i] := by rw [List.getD_eq_getElem?_getD, hc]; rfl
    have h1 := mul_in (hp cs[i] (List.getElem_mem _)) (hs cs[i] (List.getElem_mem _))
    unfold eqWant
    rw [e]
    split <;> omega
end Go.AM.E

