/-
The bound of prices, and which prices are a proof.
-/
import Derived.Test.YtkacpekakpbalaaEPrice
set_option linter.unusedVariables false
set_option linter.unusedSimpArgs false
set_option maxRecDepth 20000

namespace Go.AM.E
open Go Go.AM Go.Proofs

def coAt (b : Blend) (i : Nat) : Int := (b.cs.getD i cem0).co
def psAt (b : Blend) (i : Nat) : List Int := (b.cs.getD i cem0).ps
theorem coAt_some {b : Blend} {i : Nat} {c : Cem} (h : b.cs[i]? = some c) : coAt b i = c.co := by
  unfold coAt
  rw [List.getD_eq_getElem?_getD, h]
  rfl
theorem psAt_some {b : Blend} {i : Nat} {c : Cem} (h : b.cs[i]? = some c) : psAt b i = c.ps := by
  unfold psAt
  rw [List.getD_eq_getElem?_getD, h]
  rfl
def gainAt (b : Blend) (p : Pr) (i : Nat) : Int := gainM (psAt b i) p - p.w.getD i 0
def dearB (b : Blend) (p : Pr) : Bool := (List.range b.cs.length).any fun i => decide (p.den * coAt b i < gainAt b p i)
def gainB (b : Blend) (p : Pr) : Bool := (List.range b.cs.length).any fun i => decide (0 < gainAt b p i)
theorem dear_iff {b : Blend} {p : Pr} : dearB b p = false ↔ ∀ i, i < b.cs.length → ¬ p.den * coAt b i < gainAt b p i := by
  unfold dearB
  rw [List.any_eq_false]
  simp
theorem gainB_iff {b : Blend} {p : Pr} : gainB b p = false ↔ ∀ i, i < b.cs.length → ¬ 0 < gainAt b p i := by
  unfold gainB
  rw [List.any_eq_false]
  simp
def boundR (b : Blend) (p : Pr) : Int × Int × Int :=
  if errV b = 0 then (if rightP b p = true then (if dearB b p = true then (0, 0, 9) else makeR (valueM b p) p.den) else (0, 0, 1)) else (0, 0, 1)
def proofB (b : Blend) (p : Pr) : Bool := decide (errV b = 0) && rightP b p && !gainB b p && decide (0 < valueM b p)

theorem q_one : ((1 : Int) != 0) = true := by decide
theorem proofB_iff {b : Blend} {p : Pr} : proofB b p = true ↔ Valid b ∧ RightP b p ∧ (∀ i, i < b.cs.length → gainAt b p i ≤ 0) ∧ 0 < valueM b p := by
  unfold proofB
  simp only [Bool.and_eq_true, decide_eq_true_eq, Bool.not_eq_true', gainB_iff, rightP_iff]
  constructor
  · rintro ⟨⟨⟨h1, h2⟩, h3⟩, h4⟩
    exact ⟨errV_zero h1, h2, fun i hi => by have := h3 i hi; omega, h4⟩
  · rintro ⟨h1, h2, h3, h4⟩
    exact ⟨⟨⟨errV_yes h1, h2⟩, fun i hi => by have := h3 i hi; omega⟩, h4⟩
end Go.AM.E

