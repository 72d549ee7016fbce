/-
The least lattice of a pattern (plain).
-/
import Derived.Test.YtejjeckiplihbaaDLatP
set_option linter.unusedSimpArgs false
set_option maxRecDepth 20000

namespace Go.AM.D
open Go

def okW (p : Pat) (n : Nat) : Bool := (p.w % n == 0) && perP p n 0
def leastW (p : Pat) : Nat := firstN (okW p) 145 1
def okS (p : Pat) (h s : Nat) : Bool := (p.h % h == 0) && perP p s h
def hitH (p : Pat) (h : Nat) : Bool := (List.range (leastW p)).any (okS p h)
def leastH (p : Pat) : Nat := firstN (hitH p) 145 1
def leastS (p : Pat) : Nat := firstN (okS p (leastH p)) 145 0
theorem okW_full {p : Pat} (hp : PatOk p) : okW p p.w.toNat = true := by
  have := hp.w1
  unfold okW
  rw [Int.toNat_of_nonneg (by omega), perP_full]
  simp
theorem leastW_spec {p : Pat} (hp : PatOk p) : 1 ≤ leastW p ∧ (leastW p : Int) ≤ p.w ∧ okW p (leastW p) = true ∧ ∀ j, 1 ≤ j → j < leastW p → okW p j = false := by
  have h1 := hp.w1
  have h2 := hp.w2
  obtain ⟨a, b, c, d⟩ := firstN_spec (okW p) 145 1 p.w.toNat (by omega) (by omega) (okW_full hp)
  exact ⟨a, by unfold leastW; omega, c, d⟩
theorem hitH_full {p : Pat} (hp : PatOk p) : hitH p p.h.toNat = true := by
  have h1 := hp.h1
  obtain ⟨a, _, c, _⟩ := leastW_spec hp
  unfold okW at c
  rw [Bool.and_eq_true] at c
  have s := perP_shift hp (w := leastW p) (by omega) c.2
  have b1 := Int.emod_nonneg p.s (show (leastW p : Int) ≠ 0 by omega)
  have b2 := Int.emod_lt_of_pos p.s (show 0 < (leastW p : Int) by omega)
  unfold hitH
  rw [List.any_eq_true]
  refine ⟨(p.s % (leastW p : Int)).toNat, List.mem_range.2 (by omega), ?_⟩
  unfold okS
  rw [Int.toNat_of_nonneg b1, Int.toNat_of_nonneg (by omega), s]
  simp
theorem leastH_spec {p : Pat} (hp : PatOk p) : 1 ≤ leastH p ∧ (leastH p : Int) ≤ p.h ∧ hitH p (leastH p) = true ∧ ∀ j, 1 ≤ j → j < leastH p → hitH p j = false := by
  have h1 := hp.h1
  have h2 := hp.h2
  obtain ⟨a, b, c, d⟩ := firstN_spec (hitH p) 145 1 p.h.toNat (by omega) (by omega) (hitH_full hp)
  exact ⟨a, by unfold leastH; omega, c, d⟩
theorem leastS_spec {p : Pat} (hp : PatOk p) : leastS p < leastW p ∧ okS p (leastH p) (leastS p) = true ∧ ∀ j, j < leastS p → okS p (leastH p) j = false := by
  have h2 := hp.w2
  have hw := leastW_spec hp
  have h := (leastH_spec hp).2.2.1
  unfold hitH at h
  rw [List.any_eq_true] at h
  obtain ⟨s, hs, h⟩ := h
  have hs := List.mem_range.1 hs
  obtain ⟨a, b, c, d⟩ := firstN_spec (okS p (leastH p)) 145 0 s (by omega) (by omega) h
  exact ⟨by unfold leastS; omega, c, fun j hj => d j (by omega) hj⟩
theorem least_area {p : Pat} (hp : PatOk p) {h : Nat} (hh : h ≤ leastH p) : (leastW p : Int) * h ≤ 144 ∧ 0 ≤ (leastW p : Int) * h := by
  obtain ⟨_, b, _, _⟩ := leastW_spec hp
  obtain ⟨_, b2, _, _⟩ := leastH_spec hp
  have e1 := Int.mul_le_mul_of_nonneg_right b (show (0 : Int) ≤ h by omega)
  have e2 := Int.mul_le_mul_of_nonneg_left (show (h : Int) ≤ p.h by omega) (show 0 ≤ p.w by have := hp.w1; omega)
  have e3 := Int.mul_nonneg (show (0 : Int) ≤ leastW p by omega) (show (0 : Int) ≤ h by omega)
  have := hp.a
  omega
end Go.AM.D
