/-
Totals are divided by weights (plain).
-/
import Derived.Test.YtkacpekakpbalaaECheckB
import Derived.Test.YtkacpekakpbalaaEMixP
set_option linter.unusedSimpArgs false

namespace Go.AM.E
open Go

theorem getD_set {l : List Int} {k : Nat} (hk : k < l.length) (x : Int) (i : Nat) : (l.set k x).getD i 0 = if i = k then x else l.getD i 0 := by
  rw [List.getD_eq_getElem?_getD, List.getD_eq_getElem?_getD, List.getElem?_set]
  by_cases h : k = i
  · rw [if_pos h, if_pos h.symm, if_pos (by omega)]; rfl
  · rw [if_neg h, if_neg (fun hh => h hh.symm)]
theorem sumX_set {l : List Int} {k : Nat} (hk : k < l.length) (x : Int) : ∀ n : Nat, sumX (l.set k x) n = sumX l n + (if k < n then x - l.getD k 0 else 0)
  | 0 => by simp [sumX]
  | n + 1 => by
    show sumX (l.set k x) n + (l.set k x).getD n 0 = sumX l n + l.getD n 0 + _
    rw [sumX_set hk x n, getD_set hk]
    by_cases h : n = k
    · subst h
      rw [if_pos rfl, if_neg (by omega), if_pos (by omega)]
      omega
    · rw [if_neg h]
      by_cases h2 : k < n
      · rw [if_pos h2, if_pos (by omega)]; omega
      · rw [if_neg h2, if_neg (by omega)]; omega

/-- The first of the greatest numbers among the first ones. -/
def amax (r : List Int) : Nat → Nat
  | 0 => 0
  | k + 1 => if r.getD (amax r k) 0 < r.getD k 0 then k else amax r k
theorem amax_lt (r : List Int) : ∀ k : Nat, 0 < k → amax r k < k
  | 0, h => by omega
  | k + 1, _ => by
    unfold amax
    split
    · omega
    · rcases Nat.eq_zero_or_pos k with h | h
      · subst h; exact Nat.zero_lt_one
      · have := amax_lt r k h; omega
theorem amax_one (r : List Int) : amax r 1 = 0 := by
  have := amax_lt r 1 (by omega)
  omega
def giveOne (s : List Int × List Int) : List Int × List Int :=
  (s.1.set (amax s.2 s.2.length) (s.1.getD (amax s.2 s.2.length) 0 + 1), s.2.set (amax s.2 s.2.length) (-1))
def giveN : Nat → List Int × List Int → List Int × List Int
  | 0, s => s
  | n + 1, s => giveN n (giveOne s)
theorem give_len {s : List Int × List Int} : (giveOne s).1.length = s.1.length ∧ (giveOne s).2.length = s.2.length := by simp [giveOne]
theorem giveN_len : ∀ (n : Nat) (s : List Int × List Int), (giveN n s).1.length = s.1.length
  | 0, _ => rfl
  | n + 1, s => by
    show (giveN n (giveOne s)).1.length = _
    rw [giveN_len n, give_len.1]
theorem give_sum {s : List Int × List Int} (h : s.1.length = s.2.length) (h0 : 0 < s.1.length) : sumX (giveOne s).1 s.1.length = sumX s.1 s.1.length + 1 := by
  have hk : amax s.2 s.2.length < s.1.length := by rw [h]; exact amax_lt _ _ (by omega)
  unfold giveOne
  dsimp only
  rw [sumX_set hk, if_pos hk]
  omega
theorem giveN_sum : ∀ (n : Nat) (s : List Int × List Int), s.1.length = s.2.length → 0 < s.1.length → sumX (giveN n s).1 s.1.length = sumX s.1 s.1.length + n
  | 0, s, _, _ => by simp [giveN]
  | n + 1, s, h, h0 => by
    have g := give_len (s := s)
    have := giveN_sum n (giveOne s) (by rw [g.1, g.2, h]) (by rw [g.1]; exact h0)
    rw [g.1, give_sum h h0] at this
    show sumX (giveN n (giveOne s)).1 s.1.length = _
    rw [this]
    omega

/-- What each part gets at first, and what is left over of it. -/
def quotaL (tot sum : Int) (ws : List Int) : List Int := ws.map fun w => (tot * w).tdiv sum
def restL (tot sum : Int) (ws : List Int) : List Int := ws.map fun w => (tot * w).tmod sum
def leftL (tot sum : Int) (ws : List Int) (k : Nat) : Int := tot - sumX (quotaL tot sum ws) k
def shareM (tot : Int) (ws : List Int) : List Int × Int :=
  if sumX ws ws.length = 0 then ([], 1) else ((giveN (leftL tot (sumX ws ws.length) ws ws.length).toNat (quotaL tot (sumX ws ws.length) ws, restL tot (sumX ws ws.length) ws)).1, 0)
theorem quota_get {tot sum : Int} {ws : List Int} {k : Nat} {w : Int} (h : ws[k]? = some w) : (quotaL tot sum ws)[k]? = some ((tot * w).tdiv sum) := by
  unfold quotaL
  rw [List.getElem?_map, h]
  rfl
theorem rest_get {tot sum : Int} {ws : List Int} {k : Nat} {w : Int} (h : ws[k]? = some w) : (restL tot sum ws)[k]? = some ((tot * w).tmod sum) := by
  unfold restL
  rw [List.getElem?_map, h]
  rfl
theorem tdiv_in {a b : Int} (ha : 0 ≤ a) (hb : 0 < b) : 0 ≤ a.tdiv b ∧ a.tdiv b ≤ a ∧ a.tdiv b * b ≤ a ∧ 0 ≤ a.tmod b ∧ a.tmod b < b := by
  have h1 := Int.tdiv_nonneg ha (show 0 ≤ b by omega)
  have h2 := Int.tmod_nonneg b ha
  have h3 := Int.tmod_lt_of_pos a hb
  have h4 := Int.tdiv_mul_add_tmod a b
  have h5 : a.tdiv b * 1 ≤ a.tdiv b * b := Int.mul_le_mul_of_nonneg_left (by omega) h1
  omega
/-- The parts together are at most the total. -/
theorem quota_sum {tot sum : Int} {ws : List Int} (ht : 0 ≤ tot) (hs : 0 < sum) (hw : ∀ w ∈ ws, 0 ≤ w) : ∀ k : Nat, k ≤ ws.length → 0 ≤ sumX (quotaL tot sum ws) k ∧ sumX (quotaL tot sum ws) k * sum ≤ tot * sumX ws k
  | 0, _ => by simp [sumX]
  | k + 1, h => by
    have ih := quota_sum ht hs hw k (by omega)
    have g1 : ws[k]? = some ws[k] := List.getElem?_eq_getElem (by omega)
    have g2 := quota_get (tot := tot) (sum := sum) g1
    have b := tdiv_in (Int.mul_nonneg ht (hw ws[k] (List.getElem_mem _))) hs
    rw [sumX_step g2, sumX_step g1, Int.add_mul, Int.mul_add]
    omega
theorem left_in {tot sum : Int} {ws : List Int} (ht : 0 ≤ tot) (hs : 0 < sum) (hw : ∀ w ∈ ws, 0 ≤ w) {k : Nat} (hk : k ≤ ws.length) (hsum : sumX ws k ≤ sum) : 0 ≤ leftL tot sum ws k ∧ leftL tot sum ws k ≤ tot := by
  have h := quota_sum ht hs hw k hk
  have h2 := Int.mul_le_mul_of_nonneg_left hsum ht
  have h3 : sumX (quotaL tot sum ws) k * sum ≤ tot * sum := by omega
  have h4 := Int.le_of_mul_le_mul_right h3 hs
  unfold leftL
  omega
theorem sum_mono {ws : List Int} (hw : ∀ w ∈ ws, 0 ≤ w) : ∀ k : Nat, k ≤ ws.length → 0 ≤ sumX ws k
  | 0, _ => by simp [sumX]
  | k + 1, h => by
    have := sum_mono hw k (by omega)
    have g1 : ws[k]? = some ws[k] := List.getElem?_eq_getElem (by omega)
    have := hw ws[k] (List.getElem_mem _)
    rw [sumX_step g1]
    omega
theorem sum_le {ws : List Int} (hw : ∀ w ∈ ws, 0 ≤ w) : ∀ (d k : Nat), k + d ≤ ws.length → sumX ws k ≤ sumX ws (k + d)
  | 0, _, _ => Int.le_refl _
  | d + 1, k, h => by
    have ih := sum_le hw d k (by omega)
    have g1 : ws[k + d]? = some ws[k + d] := List.getElem?_eq_getElem (by omega)
    have := hw ws[k + d] (List.getElem_mem _)
    show _ ≤ sumX ws (k + d + 1)
    rw [sumX_step g1]
    omega
theorem sum_most {ws : List Int} (hw : ∀ w ∈ ws, 0 ≤ w) {k : Nat} (h : k ≤ ws.length) : sumX ws k ≤ sumX ws ws.length := by
  have := sum_le hw (ws.length - k) k (by omega)
  rwa [show k + (ws.length - k) = ws.length by omega] at this
/-- The whole amounts add up to the total. -/
theorem share_sum {tot : Int} {ws : List Int} (ht : 0 ≤ tot) (hw : ∀ w ∈ ws, 0 ≤ w) (h0 : 0 < ws.length) (h : (shareM tot ws).2 = 0) : (shareM tot ws).1.length = ws.length ∧ sumX (shareM tot ws).1 ws.length = tot := by
  unfold shareM at h ⊢
  split at h
  · cases h
  rename_i hs
  rw [if_neg hs]
  have hs0 := sum_mono hw ws.length (Nat.le_refl _)
  have hl := left_in ht (show 0 < sumX ws ws.length by omega) hw (Nat.le_refl _) (Int.le_refl _)
  have lq : (quotaL tot (sumX ws ws.length) ws).length = ws.length := by simp [quotaL]
  have lr : (restL tot (sumX ws ws.length) ws).length = ws.length := by simp [restL]
  have := giveN_sum (leftL tot (sumX ws ws.length) ws ws.length).toNat (quotaL tot (sumX ws ws.length) ws, restL tot (sumX ws ws.length) ws) (by dsimp only; omega) (by dsimp only; omega)
  dsimp only at this ⊢
  rw [lq] at this
  rw [giveN_len]
  refine ⟨lq, ?_⟩
  rw [this]
  unfold leftL at hl ⊢
  omega

/-- The greatest common divisor of the first numbers. -/
def gcdTo (xs : List Int) : Nat → Nat
  | 0 => 0
  | k + 1 => Nat.gcd (gcdTo xs k) (xs.getD k 0).toNat
def weightL (xs : List Int) : List Int := xs.map fun n => n.tdiv (max 1 (gcdTo xs xs.length) : Nat)
theorem gcdTo_step {xs : List Int} {k : Nat} {n : Int} (h : xs[k]? = some n) : gcdTo xs (k + 1) = Nat.gcd (gcdTo xs k) n.toNat := by
  show Nat.gcd _ _ = _
  rw [getD_some h]
end Go.AM.E
