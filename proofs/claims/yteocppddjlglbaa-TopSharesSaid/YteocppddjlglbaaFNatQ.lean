/-
Words of a number; differences, halves and comparisons by words.
-/
import Derived.Test.YteocppddjlglbaaFNatP
set_option linter.unusedVariables false
set_option linter.unusedSimpArgs false
set_option maxRecDepth 20000

namespace Go.AM.F

def wordsN : Nat → Nat → List Nat
  | 0, _ => []
  | k + 1, n => n % 4294967296 :: wordsN k (n / 4294967296)
theorem wordsN_len : ∀ k n, (wordsN k n).length = k
  | 0, _ => rfl
  | k + 1, n => by simp only [wordsN, List.length_cons, wordsN_len k]
theorem wordsN_ok : ∀ k n, wordsOk (wordsN k n)
  | 0, _ => by intro w hw; cases hw
  | k + 1, n => by
    intro w hw
    simp only [wordsN, List.mem_cons] at hw
    rcases hw with rfl | hw
    · omega
    · exact wordsN_ok k _ w hw
theorem wordsN_val : ∀ k n, n < 4294967296 ^ k → valW (wordsN k n) = n
  | 0, n, h => by simp [wordsN, valW] at h ⊢; omega
  | k + 1, n, h => by
    simp only [wordsN, valW]
    rw [wordsN_val k (n / 4294967296) (by rw [Nat.pow_succ] at h; exact (Nat.div_lt_iff_lt_mul (by decide)).2 h)]
    omega
theorem wordsN_of : ∀ (l : List Nat), wordsOk l → wordsN l.length (valW l) = l
  | [], _ => rfl
  | w :: r, h => by
    have h2 := h w (List.mem_cons_self ..)
    simp only [valW, List.length_cons, wordsN]
    have e1 : (w + 4294967296 * valW r) % 4294967296 = w := by omega
    have e2 : (w + 4294967296 * valW r) / 4294967296 = valW r := by omega
    rw [e1, e2, wordsN_of r fun x hx => h x (List.mem_cons_of_mem _ hx)]

def wd (n : Nat) : List Nat := wordsN 20 n
def big : Nat := 4294967296 ^ 20
theorem big_eq : big = 2 ^ 640 := by decide +kernel
theorem wd_len (n : Nat) : (wd n).length = 20 := wordsN_len 20 n
theorem wd_ok (n : Nat) : wordsOk (wd n) := wordsN_ok 20 n
theorem wd_val {n : Nat} (h : n < big) : valW (wd n) = n := wordsN_val 20 n h
theorem wd_of {l : List Nat} (hl : l.length = 20) (hw : wordsOk l) : l = wd (valW l) := by
  have := wordsN_of l hw
  rw [hl] at this
  exact this.symm
theorem wd_eq {l : List Nat} {n : Nat} (hl : l.length = 20) (hw : wordsOk l) (hv : valW l = n) : l = wd n := by rw [← hv]; exact wd_of hl hw

theorem valW_app : ∀ p s : List Nat, valW (p ++ s) = valW p + 4294967296 ^ p.length * valW s
  | [], s => by simp [valW]
  | w :: r, s => by
    simp only [List.cons_append, valW, valW_app r s, List.length_cons, Nat.pow_succ]
    rw [Nat.mul_add, ← Nat.mul_assoc, Nat.mul_comm 4294967296 (4294967296 ^ r.length)]
    omega

def minusW : Nat → List Nat → List Nat → List Nat
  | b, v :: r, u :: s => (v + 4294967296 - (u + b)) % 4294967296 :: minusW (if v < u + b then 1 else 0) r s
  | _, _, _ => []
theorem minusW_len : ∀ (l m : List Nat) (c : Nat), l.length = m.length → (minusW c l m).length = l.length
  | [], [], _, _ => rfl
  | [], _ :: _, _, h => by cases h
  | _ :: _, [], _, h => by cases h
  | _ :: r, _ :: s, _, h => by
    simp only [minusW, List.length_cons, minusW_len r s _ (by simpa using h)]
theorem minusW_ok : ∀ (l m : List Nat) (c : Nat), wordsOk (minusW c l m)
  | [], [], _ => by intro w hw; simp [minusW] at hw
  | [], _ :: _, _ => by intro w hw; simp [minusW] at hw
  | _ :: _, [], _ => by intro w hw; simp [minusW] at hw
  | _ :: r, _ :: s, _ => by
    intro w hw
    simp only [minusW, List.mem_cons] at hw
    rcases hw with rfl | hw
    · omega
    · exact minusW_ok r s _ w hw
theorem minusW_val : ∀ (l m : List Nat) (b : Nat), l.length = m.length → wordsOk l → wordsOk m → b ≤ 1 → valW m + b ≤ valW l → valW (minusW b l m) + valW m + b = valW l
  | [], [], b, _, _, _, _, h => by simp [valW, minusW] at h ⊢; omega
  | [], _ :: _, _, h, _, _, _, _ => by cases h
  | _ :: _, [], _, h, _, _, _, _ => by cases h
  | v :: r, u :: s, b, hl, h1, h2, hb, h => by
    have hv := h1 v (List.mem_cons_self ..)
    have hu := h2 u (List.mem_cons_self ..)
    simp only [valW, minusW] at h ⊢
    by_cases hc : v < u + b
    · rw [if_pos hc]
      have ih := minusW_val r s 1 (by simpa using hl) (fun x hx => h1 x (List.mem_cons_of_mem _ hx)) (fun x hx => h2 x (List.mem_cons_of_mem _ hx)) (by omega) (by omega)
      omega
    · rw [if_neg hc]
      have ih := minusW_val r s 0 (by simpa using hl) (fun x hx => h1 x (List.mem_cons_of_mem _ hx)) (fun x hx => h2 x (List.mem_cons_of_mem _ hx)) (by omega) (by omega)
      omega

def halfW : List Nat → List Nat
  | [] => []
  | [w] => [w / 2]
  | w :: v :: r => (w / 2 + v % 2 * 2147483648) :: halfW (v :: r)
theorem halfW_len : ∀ l : List Nat, (halfW l).length = l.length
  | [] => rfl
  | [_] => rfl
  | _ :: v :: r => by simp only [halfW, List.length_cons, halfW_len (v :: r)]
theorem halfW_val : ∀ l : List Nat, wordsOk l → wordsOk (halfW l) ∧ valW (halfW l) = valW l / 2
  | [], _ => ⟨(by intro w hw; cases hw), rfl⟩
  | [w], h => by
    have h1 := h w (List.mem_cons_self ..)
    refine ⟨?_, by simp [halfW, valW]⟩
    intro x hx
    simp only [halfW, List.mem_singleton] at hx
    omega
  | w :: v :: r, h => by
    have h1 := h w (List.mem_cons_self ..)
    obtain ⟨h2, h3⟩ := halfW_val (v :: r) fun x hx => h x (List.mem_cons_of_mem _ hx)
    refine ⟨?_, ?_⟩
    · intro x hx
      simp only [halfW, List.mem_cons] at hx
      rcases hx with rfl | hx
      · omega
      · exact h2 x (by simpa using hx)
    · simp only [halfW, valW] at h3 ⊢
      rw [h3]
      omega

def bitsN (n : Nat) : Nat := if n = 0 then 0 else Nat.log2 n + 1
theorem bits_lt (n : Nat) : n < 2 ^ bitsN n := by
  unfold bitsN
  split
  · omega
  · exact Nat.lt_log2_self
theorem bits_ge {n : Nat} (h : n ≠ 0) : 2 ^ (bitsN n - 1) ≤ n := by
  unfold bitsN
  rw [if_neg h]
  exact Nat.log2_self_le h
theorem bits_of {n k : Nat} (h1 : n < 2 ^ (k + 1)) (h2 : 2 ^ k ≤ n) : bitsN n = k + 1 := by
  have h0 : n ≠ 0 := by have := Nat.two_pow_pos k; omega
  have a1 := bits_lt n
  have a2 := bits_ge h0
  have a3 : 2 ^ k < 2 ^ bitsN n := Nat.lt_of_le_of_lt h2 a1
  have a4 : 2 ^ (bitsN n - 1) < 2 ^ (k + 1) := Nat.lt_of_le_of_lt a2 h1
  have a5 := (Nat.pow_lt_pow_iff_right (by decide : 1 < 2)).1 a3
  have a6 := (Nat.pow_lt_pow_iff_right (by decide : 1 < 2)).1 a4
  omega
theorem bits_top {i w p : Nat} (hw : w ≠ 0) (hp : p < 4294967296 ^ i) : bitsN (p + 4294967296 ^ i * w) = 32 * i + bitsN w := by
  obtain ⟨k, hk⟩ : ∃ k, bitsN w = k + 1 := ⟨bitsN w - 1, by unfold bitsN; rw [if_neg hw]; omega⟩
  have h1 := bits_lt w
  have h2 := bits_ge hw
  rw [hk] at h1 h2 ⊢
  have e : 4294967296 ^ i = 2 ^ (32 * i) := by rw [Nat.pow_mul]
  rw [e] at hp ⊢
  have e2 : 32 * i + (k + 1) = (32 * i + k) + 1 := by omega
  rw [e2]
  apply bits_of
  · rw [show 32 * i + k + 1 = 32 * i + (k + 1) by omega, Nat.pow_add]
    have : 2 ^ (32 * i) * (w + 1) ≤ 2 ^ (32 * i) * 2 ^ (k + 1) := Nat.mul_le_mul_left _ h1
    rw [Nat.mul_add, Nat.mul_one] at this
    omega
  · rw [Nat.pow_add]
    have : 2 ^ (32 * i) * 2 ^ (k + 1 - 1) ≤ 2 ^ (32 * i) * w := Nat.mul_le_mul_left _ h2
    rw [Nat.add_sub_cancel] at this
    omega

def cmpN (a b : Nat) : Int := if a < b then -1 else if b < a then 1 else 0
end Go.AM.F

