/-
Fractions are compared.
-/
import Derived.Test.YtkacpekakpbalaaEBoundB
import Derived.Test.YtkacpekakpbalaaEMixP
set_option linter.unusedVariables false
set_option linter.unusedSimpArgs false
set_option maxRecDepth 20000

namespace Go.AM.E
open Go Go.AM Go.Proofs

def Rat' (r : Int × Int) : Prop := (1 ≤ r.2 ∧ r.2 ≤ 1048576) ∧ (-1099511627776 ≤ r.1 ∧ r.1 ≤ 1099511627776) ∧ Nat.gcd r.1.natAbs r.2.natAbs = 1
theorem nat_div_mul {n g : Nat} (hd : g ∣ n) : n / g * g = n := Nat.div_mul_cancel hd
theorem make_ok {n d a b : Int} (hd : 1 ≤ d) (h : makeR n d = (a, b, 0)) : Rat' (a, b) ∧ a * d = n * b := by
  unfold makeR at h
  split at h
  · cases h
  rename_i hb
  have hg : 1 ≤ Nat.gcd n.natAbs d.natAbs := gcd_one (by omega)
  have d1 : Nat.gcd n.natAbs d.natAbs ∣ n.natAbs := Nat.gcd_dvd_left _ _
  have d2 : Nat.gcd n.natAbs d.natAbs ∣ d.natAbs := Nat.gcd_dvd_right _ _
  have m1 := nat_div_mul d1
  have m2 := nat_div_mul d2
  have hco : Nat.gcd (n.natAbs / Nat.gcd n.natAbs d.natAbs) (d.natAbs / Nat.gcd n.natAbs d.natAbs) = 1 := Nat.gcd_div_gcd_div_gcd_of_pos_right (by omega)
  generalize Nat.gcd n.natAbs d.natAbs = g at *
  generalize hA : n.natAbs / g = A at *
  generalize hB : d.natAbs / g = B at *
  have hB1 : 1 ≤ B := by
    rcases Nat.eq_zero_or_pos B with h0 | h0
    · rw [h0, Nat.zero_mul] at m2; omega
    · exact h0
  have e1 : (A : Int) * g = n.natAbs := by exact_mod_cast m1
  have e2 : (B : Int) * g = d := by have : (B : Int) * g = d.natAbs := by exact_mod_cast m2
                                    omega
  obtain ⟨h1, h2⟩ : (if n < 0 then -(A : Int) else (A : Int)) = a ∧ (B : Int) = b := by
    have := Prod.mk.inj h
    exact ⟨this.1, (Prod.mk.inj this.2).1⟩
  subst h2
  have ha : a.natAbs = A := by rw [← h1]; split <;> omega
  refine ⟨⟨by dsimp only; omega, by dsimp only; omega, by dsimp only; rw [ha, Int.natAbs_natCast]; exact hco⟩, ?_⟩
  rw [← e2, Int.mul_comm (B : Int), ← Int.mul_assoc]
  congr 1
  rw [← h1]
  split
  · rw [Int.neg_mul, e1]; omega
  · rw [e1]; omega

theorem dot_add (f g : Cem → Int) (cs : List Cem) (x : List Int) : ∀ k : Nat, dotTo (fun c => f c + g c) cs x k = dotTo f cs x k + dotTo g cs x k
  | 0 => by simp [dotTo]
  | k + 1 => by
    show dotTo _ cs x k + _ = dotTo f cs x k + _ + (dotTo g cs x k + _)
    rw [dot_add f g cs x k, Int.add_mul]
    omega
end Go.AM.E

