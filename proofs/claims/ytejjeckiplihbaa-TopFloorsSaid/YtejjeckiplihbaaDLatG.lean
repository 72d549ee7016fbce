/- A part of the proof: the texts DLatP, DLatQ, one after another. No condition. -/
import Derived.Test.YtejjeckiplihbaaDPatG
set_option linter.unusedSimpArgs false
set_option maxRecDepth 20000

section
/-
The lattice of a pattern (plain).
-/
namespace Go.AM.D
open Go

theorem colP_s (p : Pat) (hp : PatOk p) (x y k : Int) : colP p (x + k * p.s) (y + k * p.h) = colP p x y := by
  have h1 := hp.h1
  unfold colP
  rw [Int.add_mul_emod_self_right, Int.add_mul_ediv_right _ _ (show p.h ≠ 0 by omega), Int.add_mul]
  rw [show x + k * p.s - (y / p.h * p.s + k * p.s) = x - y / p.h * p.s by omega]
theorem colP_w (p : Pat) (x y k : Int) : colP p (x + k * p.w) y = colP p x y := by
  unfold colP
  rw [show x + k * p.w - y / p.h * p.s = x - y / p.h * p.s + k * p.w by omega, Int.add_mul_emod_self_right]
theorem colP_red (p : Pat) (hp : PatOk p) (x y : Int) : colP p ((x - y / p.h * p.s) % p.w) (y % p.h) = colP p x y := by
  have h1 := hp.h1
  unfold colP
  rw [Int.emod_emod_of_dvd y (Int.dvd_refl p.h)]
  have e : y % p.h / p.h = 0 := Int.ediv_eq_zero_of_lt (Int.emod_nonneg y (by omega)) (Int.emod_lt_of_pos y (by omega))
  rw [e, Int.zero_mul, Int.sub_zero, Int.emod_emod_of_dvd _ (Int.dvd_refl p.w)]
theorem perP_all {p : Pat} (hp : PatOk p) {a b : Int} (h : perP p a b = true) (x y : Int) : colP p (x + a) (y + b) = colP p x y := by
  have w1 := hp.w1
  have h1 := hp.h1
  have e1 := Int.mul_ediv_add_emod y p.h
  have e2 := Int.mul_ediv_add_emod (x - y / p.h * p.s) p.w
  have b1 := Int.emod_nonneg y (show p.h ≠ 0 by omega)
  have b2 := Int.emod_lt_of_pos y (show 0 < p.h by omega)
  have b3 := Int.emod_nonneg (x - y / p.h * p.s) (show p.w ≠ 0 by omega)
  have b4 := Int.emod_lt_of_pos (x - y / p.h * p.s) (show 0 < p.w by omega)
  rw [← colP_red p hp x y]
  generalize (x - y / p.h * p.s) / p.w = k at *
  generalize (x - y / p.h * p.s) % p.w = X at *
  generalize y % p.h = Y at *
  generalize y / p.h = q at *
  rw [Int.mul_comm] at e1 e2
  rw [show x + a = X + a + k * p.w + q * p.s by omega, show y + b = Y + b + q * p.h by omega, colP_s p hp, colP_w]
  unfold perP at h
  have h2 := List.all_eq_true.1 (List.all_eq_true.1 h Y.toNat (List.mem_range.2 (by omega))) X.toNat (List.mem_range.2 (by omega))
  rw [Int.toNat_of_nonneg b1, Int.toNat_of_nonneg b3] at h2
  simpa using h2
theorem perP_of {p : Pat} {a b : Int} (h : ∀ x y : Int, colP p (x + a) (y + b) = colP p x y) : perP p a b = true := perP_yes fun x y _ _ => h x y
theorem perP_full {p : Pat} : perP p p.w 0 = true := perP_of fun x y => by
  have := colP_w p x y 1
  rw [Int.one_mul] at this
  rw [Int.add_zero, this]
theorem perP_mul {p : Pat} (hp : PatOk p) {a b : Int} (h : perP p a b = true) : ∀ (n : Nat) (x y : Int), colP p (x + n * a) (y + n * b) = colP p x y
  | 0, x, y => by simp
  | n + 1, x, y => by
    have e1 := perP_mul hp h n x y
    have e2 := perP_all hp h (x + n * a) (y + n * b)
    rw [← e1, ← e2]
    congr 1
    · rw [Int.natCast_add, Int.add_mul, Int.natCast_one, Int.one_mul, Int.add_assoc]
    · rw [Int.natCast_add, Int.add_mul, Int.natCast_one, Int.one_mul, Int.add_assoc]
/-- At the pattern's own height there is a shift below any width that is a period. -/
theorem perP_shift {p : Pat} (hp : PatOk p) {w : Int} (hw : 1 ≤ w) (h : perP p w 0 = true) : perP p (p.s % w) p.h = true := by
  refine perP_of fun x y => ?_
  have s1 := hp.s1
  have e := Int.mul_ediv_add_emod p.s w
  have q := Int.ediv_nonneg s1 (show 0 ≤ w by omega)
  have m := perP_mul hp h (p.s / w).toNat (x + p.s % w) (y + p.h)
  rw [Int.toNat_of_nonneg q, Int.mul_zero, Int.add_zero] at m
  rw [← m]
  rw [Int.mul_comm] at e
  rw [show x + p.s % w + p.s / w * w = x + 1 * p.s by omega]
  rw [show y + p.h = y + 1 * p.h by omega]
  exact colP_s p hp x y 1

/-- The first n from k on, at which f holds. -/
def firstN (f : Nat → Bool) : Nat → Nat → Nat
  | 0, n => n
  | k + 1, n => if f n = true then n else firstN f k (n + 1)
theorem firstN_eq (f : Nat → Bool) : ∀ (k n m : Nat), n ≤ m → m < n + k → f m = true → (∀ j, n ≤ j → j < m → f j = false) → firstN f k n = m
  | 0, n, m, h1, h2, _, _ => by omega
  | k + 1, n, m, h1, h2, h3, h4 => by
    unfold firstN
    by_cases hn : n = m
    · rw [hn, if_pos h3]
    · rw [h4 n (Nat.le_refl n) (by omega), if_neg (by decide)]
      exact firstN_eq f k (n + 1) m (by omega) (by omega) h3 fun j h5 h6 => h4 j (by omega) h6
theorem firstN_spec (f : Nat → Bool) : ∀ (k n m : Nat), n ≤ m → m < n + k → f m = true → n ≤ firstN f k n ∧ firstN f k n ≤ m ∧ f (firstN f k n) = true ∧ ∀ j, n ≤ j → j < firstN f k n → f j = false
  | 0, n, m, h1, h2, _ => by omega
  | k + 1, n, m, h1, h2, h3 => by
    unfold firstN
    by_cases hn : f n = true
    · rw [if_pos hn]
      exact ⟨Nat.le_refl n, h1, hn, fun j h4 h5 => by omega⟩
    · rw [if_neg hn]
      have hne : n ≠ m := fun e => hn (e ▸ h3)
      obtain ⟨i1, i2, i3, i4⟩ := firstN_spec f k (n + 1) m (by omega) (by omega) h3
      refine ⟨by omega, i2, i3, fun j h4 h5 => ?_⟩
      by_cases hj : j = n
      · subst hj; simpa using hn
      · exact i4 j (by omega) h5
end Go.AM.D
end

section
/-
The least lattice of a pattern (plain).
-/
namespace Go.AM.D
open Go

def okW (p : Pat) (n : Nat) : Bool := (p.w % n == 0) && perP p n 0
def leastW (p : Pat) : Nat := firstN (okW p) 145 1
def okS (p : Pat) (h s : Nat) : Bool := (p.h % h == 0) && perP p s h
def hitH (p : Pat) (h : Nat) : Bool := (List.range (leastW p)).any (okS p h)
def leastH (p : Pat) : Nat := firstN (hitH p) 145 1
def leastS (p : Pat) : Nat := firstN (okS p (leastH p)) 145 0
theorem okW_full {p : Pat} (hp : PatOk p) : okW p p.w.toNat = true := by
  have := hp.w1
  unfold okW
  rw [Int.toNat_of_nonneg (by omega), perP_full]
  simp
theorem leastW_spec {p : Pat} (hp : PatOk p) : 1 ≤ leastW p ∧ (leastW p : Int) ≤ p.w ∧ okW p (leastW p) = true ∧ ∀ j, 1 ≤ j → j < leastW p → okW p j = false := by
  have h1 := hp.w1
  have h2 := hp.w2
  obtain ⟨a, b, c, d⟩ := firstN_spec (okW p) 145 1 p.w.toNat (by omega) (by omega) (okW_full hp)
  exact ⟨a, by unfold leastW; omega, c, d⟩
theorem hitH_full {p : Pat} (hp : PatOk p) : hitH p p.h.toNat = true := by
  have h1 := hp.h1
  obtain ⟨a, _, c, _⟩ := leastW_spec hp
  unfold okW at c
  rw [Bool.and_eq_true] at c
  have s := perP_shift hp (w := leastW p) (by omega) c.2
  have b1 := Int.emod_nonneg p.s (show (leastW p : Int) ≠ 0 by omega)
  have b2 := Int.emod_lt_of_pos p.s (show 0 < (leastW p : Int) by omega)
  unfold hitH
  rw [List.any_eq_true]
  refine ⟨(p.s % (leastW p : Int)).toNat, List.mem_range.2 (by omega), ?_⟩
  unfold okS
  rw [Int.toNat_of_nonneg b1, Int.toNat_of_nonneg (by omega), s]
  simp
theorem leastH_spec {p : Pat} (hp : PatOk p) : 1 ≤ leastH p ∧ (leastH p : Int) ≤ p.h ∧ hitH p (leastH p) = true ∧ ∀ j, 1 ≤ j → j < leastH p → hitH p j = false := by
  have h1 := hp.h1
  have h2 := hp.h2
  obtain ⟨a, b, c, d⟩ := firstN_spec (hitH p) 145 1 p.h.toNat (by omega) (by omega) (hitH_full hp)
  exact ⟨a, by unfold leastH; omega, c, d⟩
theorem leastS_spec {p : Pat} (hp : PatOk p) : leastS p < leastW p ∧ okS p (leastH p) (leastS p) = true ∧ ∀ j, j < leastS p → okS p (leastH p) j = false := by
  have h2 := hp.w2
  have hw := leastW_spec hp
  have h := (leastH_spec hp).2.2.1
  unfold hitH at h
  rw [List.any_eq_true] at h
  obtain ⟨s, hs, h⟩ := h
  have hs := List.mem_range.1 hs
  obtain ⟨a, b, c, d⟩ := firstN_spec (okS p (leastH p)) 145 0 s (by omega) (by omega) h
  exact ⟨by unfold leastS; omega, c, fun j hj => d j (by omega) hj⟩
theorem least_area {p : Pat} (hp : PatOk p) {h : Nat} (hh : h ≤ leastH p) : (leastW p : Int) * h ≤ 144 ∧ 0 ≤ (leastW p : Int) * h := by
  obtain ⟨_, b, _, _⟩ := leastW_spec hp
  obtain ⟨_, b2, _, _⟩ := leastH_spec hp
  have e1 := Int.mul_le_mul_of_nonneg_right b (show (0 : Int) ≤ h by omega)
  have e2 := Int.mul_le_mul_of_nonneg_left (show (h : Int) ≤ p.h by omega) (show 0 ≤ p.w by have := hp.w1; omega)
  have e3 := Int.mul_nonneg (show (0 : Int) ≤ leastW p by omega) (show (0 : Int) ≤ h by omega)
  have := hp.a
  omega
end Go.AM.D
end
