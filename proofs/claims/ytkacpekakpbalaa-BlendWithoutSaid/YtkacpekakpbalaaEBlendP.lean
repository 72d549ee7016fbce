/-
Blends (plain).
-/
import Derived.Test.YtkacpekakpbalaaESaneR
set_option linter.unusedVariables false
set_option linter.unusedSimpArgs false
set_option maxRecDepth 20000

namespace Go.AM.E
open Go

def inB (n lo hi : Int) : Bool := decide (lo ≤ n) && decide (n ≤ hi)
theorem inB_iff {n lo hi : Int} : inB n lo hi = true ↔ lo ≤ n ∧ n ≤ hi := by unfold inB; simp
def allB (l : List Int) (lo hi : Int) : Bool := l.all fun n => inB n lo hi
theorem allB_iff {l : List Int} {lo hi : Int} : allB l lo hi = true ↔ ∀ n ∈ l, lo ≤ n ∧ n ≤ hi := by
  unfold allB
  rw [List.all_eq_true]
  constructor
  · exact fun h n hn => inB_iff.1 (h n hn)
  · exact fun h n hn => inB_iff.2 (h n hn)
structure Cem where
  st : Int
  co : Int
  ps : List Int
structure Blend where
  tot : Int
  cs : List Cem
  lo : List Int
  hi : List Int
def encCem (c : Cem) : V := .agg [.int .i64 c.st, .int .i64 c.co, .sl false (c.ps.map vI)]
def encBlend (b : Blend) : V := .agg [.int .i64 b.tot, .sl false (b.cs.map encCem), .sl false (b.lo.map vI), .sl false (b.hi.map vI)]
def leM (lo hi : List Int) : Bool := (List.range lo.length).all fun k => decide (lo.getD k 0 ≤ hi.getD k 0)
theorem leM_iff {lo hi : List Int} : leM lo hi = true ↔ ∀ k, k < lo.length → lo.getD k 0 ≤ hi.getD k 0 := by
  unfold leM
  rw [List.all_eq_true]
  simp
def cemOk (n : Nat) (c : Cem) : Bool := inB c.st 0 1000 && inB c.co 0 1000 && decide (c.ps.length = n) && allB c.ps 0 20
theorem cemOk_iff {n : Nat} {c : Cem} : cemOk n c = true ↔ (0 ≤ c.st ∧ c.st ≤ 1000) ∧ (0 ≤ c.co ∧ c.co ≤ 1000) ∧ c.ps.length = n ∧ ∀ p ∈ c.ps, 0 ≤ p ∧ p ≤ 20 := by
  unfold cemOk
  simp only [Bool.and_eq_true, inB_iff, allB_iff, decide_eq_true_eq, and_assoc]
def validM (b : Blend) : Bool :=
  inB b.tot 1 1000 && inB b.cs.length 1 5 && decide (b.lo.length ≤ 3) && decide (b.hi.length = b.lo.length) && allB b.lo 0 20 && allB b.hi 0 20 && leM b.lo b.hi && b.cs.all (cemOk b.lo.length)
def Valid (b : Blend) : Prop := (1 ≤ b.tot ∧ b.tot ≤ 1000) ∧ (1 ≤ b.cs.length ∧ b.cs.length ≤ 5) ∧ b.lo.length ≤ 3 ∧ b.hi.length = b.lo.length ∧ (∀ n ∈ b.lo, 0 ≤ n ∧ n ≤ 20) ∧ (∀ n ∈ b.hi, 0 ≤ n ∧ n ≤ 20) ∧
  (∀ k, k < b.lo.length → b.lo.getD k 0 ≤ b.hi.getD k 0) ∧ ∀ c ∈ b.cs, cemOk b.lo.length c = true
theorem validM_iff {b : Blend} : validM b = true ↔ Valid b := by
  unfold validM Valid
  simp only [Bool.and_eq_true, inB_iff, allB_iff, decide_eq_true_eq, leM_iff, List.all_eq_true, and_assoc]
  constructor
  · rintro ⟨a, b', c, d, e⟩; exact ⟨a, b', by omega, by omega, e⟩
  · rintro ⟨a, b', c, d, e⟩; exact ⟨a, b', by omega, by omega, e⟩
def errV (b : Blend) : Int := if validM b = true then 0 else 1
theorem errV_no {b : Blend} (h : ¬ Valid b) : errV b = 1 := by
  unfold errV
  rw [if_neg (fun hh => h (validM_iff.1 hh))]
theorem errV_yes {b : Blend} (h : Valid b) : errV b = 0 := by
  unfold errV
  rw [if_pos (validM_iff.2 h)]
theorem errV_zero {b : Blend} (h : errV b = 0) : Valid b := by
  unfold errV at h
  split at h
  · rename_i hh; exact validM_iff.1 hh
  · cases h
theorem errV_cases (b : Blend) : errV b = 0 ∨ errV b = 1 := by
  unfold errV
  split
  · exact .inl rfl
  · exact .inr rfl
theorem getD_some {l : List Int} {k : Nat} {x : Int} (h : l[k]? = some x) : l.getD k 0 = x := by rw [List.getD_eq_getElem?_getD, h]; rfl
end Go.AM.E

