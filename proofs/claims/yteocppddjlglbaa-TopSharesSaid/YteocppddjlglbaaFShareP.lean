/-
What made lots take, multiplied.
-/
import Derived.Test.YteocppddjlglbaaFLotP
set_option linter.unusedVariables false
set_option linter.unusedSimpArgs false
set_option maxRecDepth 20000

namespace Go.AM.F

def tkN (x : Lot) : Nat := if x.parts = [] then 1 else (sumP x.parts).toNat
def lotN (l : List Lot) (i : Nat) : Lot := l.getD i lot0
theorem lotN_at {l : List Lot} {i : Nat} (h : i < l.length) : lotN l i = l[i] := by
  unfold lotN
  rw [List.getD_eq_getElem?_getD, List.getElem?_eq_getElem h]; rfl
def seg (l : List Lot) (i : Nat) : Nat → Nat
  | 0 => 1
  | n + 1 => seg l i n * tkN (lotN l (i + n))
theorem seg_add (l : List Lot) (i m : Nat) : ∀ n, seg l i (m + n) = seg l i m * seg l (i + m) n
  | 0 => by simp [seg]
  | n + 1 => by
    rw [← Nat.add_assoc, seg, seg_add l i m n, seg, Nat.mul_assoc, Nat.add_assoc]
section
variable {l : List Lot} (v : Valid l)
include v
theorem tkN_pos {i : Nat} (hi : i < l.length) : 1 ≤ tkN l[i] ∧ tkN l[i] ≤ 600000 := by
  have h1 := v.parts hi
  have h2 := sumP_le l[i].parts h1.2
  have h3 := h1.1
  unfold tkN
  split
  · omega
  · rename_i h
    have := List.length_pos_iff.2 h
    omega
theorem tkN_eq {i : Nat} (hi : i < l.length) : (0 < sumP l[i].parts ∧ sumP l[i].parts = (tkN l[i] : Nat)) ∨ (¬ 0 < sumP l[i].parts ∧ tkN l[i] = 1) := by
  have h1 := v.parts hi
  have h2 := sumP_le l[i].parts h1.2
  unfold tkN
  split
  · rename_i h
    rw [h]; right; exact ⟨by simp [sumP], rfl⟩
  · rename_i h
    have := List.length_pos_iff.2 h
    left; omega
theorem seg_pos (i : Nat) : ∀ n, i + n ≤ l.length → 1 ≤ seg l i n
  | 0, _ => Nat.le_refl _
  | n + 1, h => by
    have h1 := seg_pos i n (by omega)
    have h2 := (tkN_pos v (i := i + n) (by omega)).1
    rw [seg, lotN_at (by omega)]
    exact Nat.mul_pos h1 h2
theorem seg_mono (i : Nat) {m n : Nat} (hmn : m ≤ n) (h : i + n ≤ l.length) : seg l i m ≤ seg l i n := by
  obtain ⟨k, rfl⟩ : ∃ k, n = m + k := ⟨n - m, by omega⟩
  rw [seg_add]
  exact Nat.le_mul_of_pos_right _ (seg_pos v (i + m) k (by omega))
theorem seg_le (i : Nat) : ∀ n, i + n ≤ l.length → seg l i n ≤ 600000 ^ n
  | 0, _ => Nat.le_refl _
  | n + 1, h => by
    have h1 := seg_le i n (by omega)
    have h2 := (tkN_pos v (i := i + n) (by omega)).2
    rw [seg, lotN_at (by omega), Nat.pow_succ]
    exact Nat.mul_le_mul h1 h2
end
end Go.AM.F

