/-
Patterns: what is a valid one, its colours (plain).
-/
import Derived.Test.YtejjeckiplihbaaDNextP
set_option linter.unusedSimpArgs false
set_option maxRecDepth 20000

namespace Go.AM.D
open Go

structure Pat where
  w : Int
  s : Int
  h : Int
  cs : List Int
def encPat (p : Pat) : V := .agg [.int .i64 p.w, .int .i64 p.s, .int .i64 p.h, .sl false (p.cs.map fun c => V.int .i64 c)]
def hueOk (c : Int) : Bool := inB c 0 7
def patE (p : Pat) : Int :=
  if (inB p.w 1 144 && inB p.h 1 144 && inB p.s 0 (p.w - 1)) = false then 1
  else if 144 < p.w * p.h then 4
  else if ((p.cs.length : Int) == p.w * p.h && p.cs.all hueOk) = false then 1 else 0
structure PatOk (p : Pat) : Prop where
  w1 : 1 ≤ p.w
  w2 : p.w ≤ 144
  h1 : 1 ≤ p.h
  h2 : p.h ≤ 144
  s1 : 0 ≤ p.s
  s2 : p.s ≤ p.w - 1
  a : p.w * p.h ≤ 144
  len : (p.cs.length : Int) = p.w * p.h
theorem patE_ok {p : Pat} (h : patE p = 0) : PatOk p := by
  unfold patE at h
  split at h
  · omega
  · split at h
    · omega
    · split at h
      · omega
      · rename_i h1 h2 h3
        rw [Bool.not_eq_false] at h1 h3
        simp only [Bool.and_eq_true, inB_iff, beq_iff_eq] at h1 h3
        exact ⟨h1.1.1.1, h1.1.1.2, h1.1.2.1, h1.1.2.2, h1.2.1, h1.2.2, by omega, h3.1⟩

theorem mul_in {a b A B : Int} (h1 : -A ≤ a) (h2 : a ≤ A) (h3 : 0 ≤ b) (h4 : b ≤ B) (hA : 0 ≤ A) : -(A * B) ≤ a * b ∧ a * b ≤ A * B := by
  have e1 := Int.mul_le_mul_of_nonneg_right h2 h3
  have e2 := Int.mul_le_mul_of_nonneg_right h1 h3
  have e3 := Int.mul_le_mul_of_nonneg_left h4 hA
  rw [Int.neg_mul] at e2
  omega
theorem floor_neg {x n : Int} (h : 1 ≤ n) (hm : x.tmod n < 0) : x.tdiv n - 1 = x / n := by
  have h1 := Int.mul_tdiv_add_tmod x n
  have h2 := Int.lt_tmod_of_pos x (show 0 < n by omega)
  refine ((Int.ediv_emod_unique (r := x.tmod n + n) (q := x.tdiv n - 1) (show 0 < n by omega)).2 ⟨?_, by omega, by omega⟩).1.symm
  rw [Int.mul_sub, Int.mul_one]
  omega
theorem floor_pos {x n : Int} (h : 1 ≤ n) (hm : ¬ x.tmod n < 0) : x.tdiv n = x / n := by
  have h1 := Int.mul_tdiv_add_tmod x n
  have h2 := Int.tmod_lt_of_pos x (show 0 < n by omega)
  exact ((Int.ediv_emod_unique (r := x.tmod n) (q := x.tdiv n) (show 0 < n by omega)).2 ⟨by omega, by omega, by omega⟩).1.symm
theorem mod_code {x n : Int} (h : 1 ≤ n) : (x.tmod n + n).tmod n = x % n := by
  have h1 := Int.mul_tdiv_add_tmod x n
  have h2 := Int.lt_tmod_of_pos x (show 0 < n by omega)
  rw [Int.tmod_eq_emod_of_nonneg (by omega)]
  rw [show x.tmod n + n = x + n * (1 - x.tdiv n) by rw [Int.mul_sub, Int.mul_one]; omega]
  rw [Int.add_mul_emod_self_left]
theorem div_in {x n B : Int} (h : 1 ≤ n) (h1 : -B ≤ x) (h2 : x ≤ B) (hB : 0 ≤ B) : -B ≤ x / n ∧ x / n ≤ B := by
  have e1 := Int.mul_ediv_add_emod x n
  have e2 := Int.emod_nonneg x (show n ≠ 0 by omega)
  have e3 := Int.emod_lt_of_pos x (show 0 < n by omega)
  refine ⟨?_, ?_⟩
  · refine Int.le_ediv_of_mul_le (by omega) ?_
    have := Int.mul_le_mul_of_nonneg_left h hB
    rw [Int.neg_mul]
    omega
  · by_cases hx : 0 ≤ x
    · exact Int.le_trans (Int.ediv_le_self n hx) h2
    · have := Int.ediv_neg_of_neg_of_pos (show x < 0 by omega) (show 0 < n by omega)
      omega

/-- The colour of a cell. -/
def colP (p : Pat) (x y : Int) : Int := p.cs.getD ((y % p.h) * p.w + (x - y / p.h * p.s) % p.w).toNat 0
theorem place_in {w h a b : Int} (ha : 0 ≤ a) (ha2 : a < h) (hb : 0 ≤ b) (hb2 : b < w) : 0 ≤ a * w ∧ a * w + b < w * h := by
  have e1 := Int.mul_nonneg ha (show 0 ≤ w by omega)
  have e2 := Int.mul_le_mul_of_nonneg_right (show a ≤ h - 1 by omega) (show 0 ≤ w by omega)
  rw [Int.sub_mul, Int.one_mul, Int.mul_comm h w] at e2
  omega

/-- The first place at which a test holds, or -1. -/
def idxP (p : Int → Bool) : List Int → Int → Int
  | [], _ => -1
  | a :: l, k => if p a = true then k else idxP p l (k + 1)
theorem idxP_append (p : Int → Bool) (l : List Int) : ∀ (pre : List Int) (k : Int), pre.any p = false → idxP p (pre ++ l) k = idxP p l (k + pre.length)
  | [], k, _ => by simp
  | a :: pre, k, h => by
    rw [List.any_cons, Bool.or_eq_false_iff] at h
    rw [List.cons_append, idxP, if_neg (by rw [h.1]; decide), idxP_append p l pre (k + 1) h.2, List.length_cons]
    congr 1
    omega
theorem idxP_any (p : Int → Bool) : ∀ (l : List Int) (k : Int), 0 ≤ k → decide (0 ≤ idxP p l k) = l.any p
  | [], _, _ => rfl
  | a :: l, k, h => by
    rw [idxP, List.any_cons]
    cases hp : p a with
    | true => simp [h]
    | false => rw [if_neg (by decide), idxP_any p l (k + 1) (by omega), Bool.false_or]
end Go.AM.D
