/- A part of the proof: the texts DRoundP, DLies, one after another. No condition. -/
import Derived.Test.YtejjeckiplihbaaDLines
set_option linter.unusedSimpArgs false
set_option maxRecDepth 20000

section
/-
How far round a drum is (plain).
-/
namespace Go.AM.D
open Go

/-- How far round, in plain numbers. -/
def roundN (W S H : Nat) : Nat := H * (W / Nat.gcd W S)
theorem drumC_eq {W S H : Nat} (hW : 1 ≤ W) : ((H : Int) * W).tdiv (Nat.gcd W S : Nat) = (roundN W S H : Nat) := by
  unfold roundN
  rw [show (H : Int) * W = ((H * W : Nat) : Int) from (Int.natCast_mul H W).symm, ← Nat.mul_div_assoc _ (Nat.gcd_dvd_left W S)]
  rfl
theorem round_pos {W S H : Nat} (hW : 1 ≤ W) (hH : 1 ≤ H) : 1 ≤ roundN W S H := by
  unfold roundN
  exact Nat.mul_pos hH (Nat.div_pos (Nat.le_of_dvd hW (Nat.gcd_dvd_left W S)) (Nat.gcd_pos_of_pos_left _ hW))
theorem round_le {W S H : Nat} (hW : 1 ≤ W ∧ W ≤ 144) (hH : 1 ≤ H ∧ H ≤ 144) : roundN W S H ≤ 20736 := by
  unfold roundN
  exact Nat.le_trans (Nat.mul_le_mul_left H (Nat.div_le_self W _)) (Nat.mul_le_mul hH.2 hW.2)

end Go.AM.D
end

section
/-
Where a strip lies.
-/
namespace Go.AM.D
open Go

theorem lies_iff {w x y : Int} {s : Strip} : lies w x y s = true ↔ s.x ≤ x ∧ x < s.x + w ∧ s.a ≤ y ∧ y < s.b := by
  unfold lies
  simp [and_assoc]
theorem lies_no {w x y : Int} {s : Strip} (h : ¬ (s.x ≤ x ∧ x < s.x + w ∧ s.a ≤ y ∧ y < s.b)) : lies w x y s = false := by
  rw [Bool.eq_false_iff]
  exact fun hh => h (lies_iff.1 hh)
end Go.AM.D
end
