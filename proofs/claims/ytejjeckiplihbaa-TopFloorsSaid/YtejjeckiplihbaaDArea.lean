/-
The area of a room: the plain law.
-/
import Derived.Test.YtejjeckiplihbaaDGrid
set_option linter.unusedSimpArgs false
set_option maxRecDepth 20000

namespace Go.AM.D
open Go Go.AM

def sumTo (g : Nat → Int) : Nat → Int
  | 0 => 0
  | n + 1 => sumTo g n + g n
theorem sumTo_congr {g h : Nat → Int} : ∀ {n : Nat}, (∀ i, i < n → g i = h i) → sumTo g n = sumTo h n
  | 0, _ => rfl
  | n + 1, e => by
    unfold sumTo
    rw [sumTo_congr (n := n) fun i hi => e i (by omega), e n (by omega)]
theorem sumTo_add (g h : Nat → Int) : ∀ n : Nat, sumTo (fun i => g i + h i) n = sumTo g n + sumTo h n
  | 0 => rfl
  | n + 1 => by
    have := sumTo_add g h n
    simp only [sumTo]
    omega
theorem sumTo_zero : ∀ n : Nat, sumTo (fun _ => 0) n = 0
  | 0 => rfl
  | n + 1 => by simp only [sumTo, sumTo_zero n]; rfl
theorem sumTo_part (a b c : Int) (ha : 0 ≤ a) (hab : a ≤ b) : ∀ n : Nat, sumTo (fun i => if a ≤ (i : Int) ∧ (i : Int) < b then c else 0) n = (max (min b (n : Int)) a - a) * c
  | 0 => by
    have : max (min b ((0 : Nat) : Int)) a - a = 0 := by omega
    rw [this, Int.zero_mul]; rfl
  | n + 1 => by
    simp only [sumTo]
    rw [sumTo_part a b c ha hab n]
    by_cases h : a ≤ (n : Int) ∧ (n : Int) < b
    · rw [if_pos h]
      have e : max (min b ((n + 1 : Nat) : Int)) a - a = (max (min b (n : Int)) a - a) + 1 := by omega
      rw [e, Int.add_mul, Int.one_mul]
    · rw [if_neg h]
      have e : max (min b ((n + 1 : Nat) : Int)) a - a = max (min b (n : Int)) a - a := by omega
      rw [e, Int.add_zero]

def cntY (f : Int → Int → Bool) (x : Int) : Nat → Int := sumTo fun y => if f x y = true then 1 else 0
def cntX (f : Int → Int → Bool) : Nat → Int := sumTo fun x => cntY f x 60
def areaM (rs : List Rect) : Int := (rs.map fun r => r.w * r.h).sum

theorem rect_sum {r : Rect} (h : rectOk r = true) : sumTo (fun x => sumTo (fun y => if inR r x y = true then 1 else 0) 60) 60 = r.w * r.h := by
  have hb := rectOk_iff.1 h
  have h1 : ∀ x : Nat, sumTo (fun y => if inR r x y = true then 1 else 0) 60 = if r.x ≤ (x : Int) ∧ (x : Int) < r.x + r.w then r.h else 0 := fun x => by
    by_cases hx : r.x ≤ (x : Int) ∧ (x : Int) < r.x + r.w
    · rw [if_pos hx]
      have e : ∀ y : Nat, (if inR r x y = true then (1 : Int) else 0) = if r.y ≤ (y : Int) ∧ (y : Int) < r.y + r.h then 1 else 0 := fun y => by
        by_cases hy : r.y ≤ (y : Int) ∧ (y : Int) < r.y + r.h
        · rw [if_pos hy, if_pos (inR_iff.2 (by omega))]
        · rw [if_neg hy, if_neg (fun hh => hy (by have := inR_iff.1 hh; omega))]
      rw [sumTo_congr fun y _ => e y, sumTo_part _ _ _ (by omega) (by omega)]
      omega
    · rw [if_neg hx]
      rw [sumTo_congr (h := fun _ => 0) fun y _ => if_neg fun hh => hx (by have := inR_iff.1 hh; omega)]
      exact sumTo_zero 60
  rw [sumTo_congr fun x _ => h1 x, sumTo_part _ _ _ (by omega) (by omega)]
  congr 1
  omega

theorem cover_sum : ∀ {rs : List Rect}, (∀ a ∈ rs, rectOk a = true) → sumTo (fun x => sumTo (fun y => ((cover rs x y : Nat) : Int)) 60) 60 = areaM rs
  | [], _ => by
    have e : ∀ x y : Nat, ((cover [] x y : Nat) : Int) = 0 := fun _ _ => rfl
    rw [sumTo_congr (h := fun _ => 0) fun x _ => by rw [sumTo_congr fun y _ => e x y]; exact sumTo_zero 60]
    exact sumTo_zero 60
  | r :: rs, h => by
    have e : ∀ x y : Nat, ((cover (r :: rs) x y : Nat) : Int) = (if inR r x y = true then 1 else 0) + ((cover rs x y : Nat) : Int) := fun x y => by
      unfold cover
      rw [List.countP_cons]
      split <;> simp_all <;> omega
    rw [sumTo_congr fun x _ => sumTo_congr fun y _ => e x y, sumTo_congr fun x _ => sumTo_add _ _ 60, sumTo_add, rect_sum (h r List.mem_cons_self), cover_sum fun a ha => h a (List.mem_cons_of_mem _ ha)]
    simp [areaM]

/-- The cells of rectangles that do not overlap are as many as their areas say. -/
theorem area_cells {rs : List Rect} (h : ∀ a ∈ rs, rectOk a = true) (ho : overM rs = false) : cntX (cellM rs) 60 = areaM rs := by
  rw [← cover_sum h]
  unfold cntX cntY
  refine sumTo_congr fun x hx => sumTo_congr fun y hy => ?_
  rw [cell_cover]
  have : ¬ 1 < cover rs x y := fun hh => by
    have := overM_iff.2 ⟨x, y, hx, hy, hh⟩
    rw [ho] at this
    cases this
  by_cases h0 : 0 < cover rs x y
  · rw [if_pos (by simpa using h0)]; omega
  · rw [if_neg (by simpa using h0)]; omega

theorem cntY_in (f : Int → Int → Bool) (x : Int) : ∀ n : Nat, 0 ≤ cntY f x n ∧ cntY f x n ≤ n
  | 0 => by simp [cntY, sumTo]
  | n + 1 => by
    have h := cntY_in f x n
    have e : cntY f x (n + 1) = cntY f x n + if f x n = true then 1 else 0 := rfl
    rw [e]
    split <;> omega
theorem cntX_in (f : Int → Int → Bool) : ∀ n : Nat, 0 ≤ cntX f n ∧ cntX f n ≤ 60 * n
  | 0 => by simp [cntX, sumTo]
  | n + 1 => by
    have h := cntX_in f n
    have h1 := cntY_in f n 60
    have e : cntX f (n + 1) = cntX f n + cntY f n 60 := rfl
    rw [e]
    omega
theorem areaM_snoc (rs : List Rect) (r : Rect) : areaM (rs ++ [r]) = areaM rs + r.w * r.h := by simp [areaM]
theorem areaM_in : ∀ {rs : List Rect}, (∀ a ∈ rs, rectOk a = true) → 0 ≤ areaM rs ∧ areaM rs ≤ 3600 * rs.length
  | [], _ => by simp [areaM]
  | r :: rs, h => by
    have h1 := areaM_in fun a ha => h a (List.mem_cons_of_mem _ ha)
    have hb := rectOk_iff.1 (h r List.mem_cons_self)
    have h2 : 0 ≤ r.w * r.h := Int.mul_nonneg (by omega) (by omega)
    have h3 : r.w * r.h ≤ 60 * 60 := Int.mul_le_mul (by omega) (by omega) (by omega) (by omega)
    have e : areaM (r :: rs) = r.w * r.h + areaM rs := by simp [areaM]
    rw [e, List.length_cons]
    omega
end Go.AM.D
