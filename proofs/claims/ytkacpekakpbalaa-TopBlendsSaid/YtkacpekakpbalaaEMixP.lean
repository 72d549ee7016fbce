/-
Sums and multiples of amounts (plain).
-/
import Derived.Test.YtkacpekakpbalaaECheckB
set_option linter.unusedVariables false
set_option linter.unusedSimpArgs false
set_option maxRecDepth 20000

namespace Go.AM.E
open Go

/-- x times p plus y times q. -/
def mixX (x y : List Int) (p q : Int) : List Int := List.zipWith (fun m n => m * p + n * q) x y
theorem mix_len {x y : List Int} {p q : Int} (h : x.length = y.length) : (mixX x y p q).length = x.length := by simp [mixX]; omega
theorem mix_get {x y : List Int} {p q : Int} {k : Nat} {m n : Int} (hm : x[k]? = some m) (hn : y[k]? = some n) : (mixX x y p q)[k]? = some (m * p + n * q) := by
  unfold mixX
  rw [List.getElem?_zipWith, hm, hn]
theorem mix_getD {x y : List Int} {p q : Int} (h : x.length = y.length) (k : Nat) : (mixX x y p q).getD k 0 = x.getD k 0 * p + y.getD k 0 * q := by
  by_cases hk : k < x.length
  · have h1 : x[k]? = some x[k] := List.getElem?_eq_getElem hk
    have h2 : y[k]? = some y[k] := List.getElem?_eq_getElem (by omega)
    rw [getD_some (mix_get h1 h2), getD_some h1, getD_some h2]
  · rw [List.getD_eq_getElem?_getD, List.getElem?_eq_none (by rw [mix_len h]; omega), List.getD_eq_getElem?_getD, List.getElem?_eq_none (by omega), List.getD_eq_getElem?_getD, List.getElem?_eq_none (by omega)]
    simp
theorem mix_sum {x y : List Int} {p q : Int} (h : x.length = y.length) : ∀ k : Nat, sumX (mixX x y p q) k = sumX x k * p + sumX y k * q
  | 0 => by simp [sumX]
  | k + 1 => by
    show sumX (mixX x y p q) k + (mixX x y p q).getD k 0 = (sumX x k + x.getD k 0) * p + (sumX y k + y.getD k 0) * q
    rw [mix_sum h k, mix_getD h, Int.add_mul, Int.add_mul]
    omega
theorem mix_dot {f : Cem → Int} {cs : List Cem} {x y : List Int} {p q : Int} (h : x.length = y.length) : ∀ k : Nat, dotTo f cs (mixX x y p q) k = dotTo f cs x k * p + dotTo f cs y k * q
  | 0 => by simp [dotTo]
  | k + 1 => by
    show dotTo f cs (mixX x y p q) k + f (cs.getD k cem0) * (mixX x y p q).getD k 0 = (dotTo f cs x k + f (cs.getD k cem0) * x.getD k 0) * p + (dotTo f cs y k + f (cs.getD k cem0) * y.getD k 0) * q
    rw [mix_dot h k, mix_getD h, Int.add_mul, Int.add_mul, Int.mul_add, Int.mul_assoc, Int.mul_assoc]
    omega

theorem inBounds_iff {b : Blend} {xs : List Int} {den : Int} {k : Nat} : inBounds b xs den k = true ↔ b.lo.getD k 0 * (b.tot * den) ≤ propM b xs k ∧ propM b xs k ≤ b.hi.getD k 0 * (b.tot * den) := inB_iff

/-- Half of each of two accepted amounts is accepted. -/
theorem mix_ok {b : Blend} {x y : Amts} (hx : checkE b x = 0) (hy : checkE b y = 0) (h1 : x.den ≤ 1000) (h2 : y.den ≤ 500) (hm : ∀ n ∈ mixX x.x y.x y.den x.den, n ≤ 1073741824) :
    checkE b ⟨2 * x.den * y.den, mixX x.x y.x y.den x.den⟩ = 0 := by
  obtain ⟨v, rx, bx⟩ := checkE_zero hx
  obtain ⟨_, ry, by'⟩ := checkE_zero hy
  obtain ⟨sx, tx, px⟩ := brokenE_zero bx
  obtain ⟨sy, ty, py⟩ := brokenE_zero by'
  obtain ⟨dx, lx, nx⟩ := rx
  obtain ⟨dy, ly, ny⟩ := ry
  have hl : x.x.length = y.x.length := by omega
  have hd : 2 * x.den * y.den = x.den * y.den + y.den * x.den := by rw [Int.mul_comm y.den x.den]; rw [Int.mul_assoc]; omega
  have hdd := mul_in (a := x.den) (b := y.den) (A := 1000) (B := 500) (by omega) (by omega)
  have hd1 := Int.mul_le_mul (show (1 : Int) ≤ x.den from dx.1) (show (1 : Int) ≤ y.den from dy.1) (by omega) (by omega)
  have hz : ∀ n ∈ mixX x.x y.x y.den x.den, 0 ≤ n := by
    intro n hn
    obtain ⟨k, hk, rfl⟩ := List.mem_iff_getElem.1 hn
    rw [mix_len hl] at hk
    have g1 : x.x[k]? = some x.x[k] := List.getElem?_eq_getElem hk
    have g2 : y.x[k]? = some y.x[k] := List.getElem?_eq_getElem (by omega)
    have g3 := mix_get (p := y.den) (q := x.den) g1 g2
    have g4 : (mixX x.x y.x y.den x.den)[k]? = some (mixX x.x y.x y.den x.den)[k] := List.getElem?_eq_getElem (by rw [mix_len hl]; exact hk)
    rw [g4] at g3
    rw [Option.some.inj g3]
    have c1 := Int.mul_nonneg (nx _ (List.getElem_mem hk)).1 (show 0 ≤ y.den by omega)
    have c2 := Int.mul_nonneg (ny y.x[k] (List.getElem_mem _)).1 (show 0 ≤ x.den by omega)
    omega
  have hr : RightA b ⟨2 * x.den * y.den, mixX x.x y.x y.den x.den⟩ := by
    refine ⟨?_, by dsimp only; rw [mix_len hl, lx], fun n hn => ⟨hz n hn, hm n hn⟩⟩
    dsimp only
    rw [hd, Int.mul_comm y.den x.den]
    omega
  unfold checkE
  rw [if_pos (errV_yes v), if_pos (rightM_iff.2 hr)]
  refine brokenE_ok ?_ ?_ ?_
  · intro i hi hlt
    dsimp only at hlt
    have a1 := sx i hi
    have a2 := sy i hi
    rw [mix_getD hl, hd, Int.mul_add] at hlt
    have c1 := Int.mul_le_mul_of_nonneg_right (show x.x.getD i 0 ≤ stAt b i * x.den by omega) (show 0 ≤ y.den by omega)
    have c2 := Int.mul_le_mul_of_nonneg_right (show y.x.getD i 0 ≤ stAt b i * y.den by omega) (show 0 ≤ x.den by omega)
    rw [Int.mul_assoc] at c1 c2
    omega
  · dsimp only
    rw [mix_sum hl, tx, ty, hd, Int.mul_add, Int.mul_assoc, Int.mul_assoc]
  · rw [kept_iff]
    intro k hk
    rw [inBounds_iff]
    dsimp only
    have a1 := inBounds_iff.1 (kept_iff.1 px k hk)
    have a2 := inBounds_iff.1 (kept_iff.1 py k hk)
    have e1 : propM b (mixX x.x y.x y.den x.den) k = propM b x.x k * y.den + propM b y.x k * x.den := mix_dot hl _
    rw [e1, hd]
    have c1 := Int.mul_le_mul_of_nonneg_right a1.1 (show 0 ≤ y.den by omega)
    have c2 := Int.mul_le_mul_of_nonneg_right a1.2 (show 0 ≤ y.den by omega)
    have c3 := Int.mul_le_mul_of_nonneg_right a2.1 (show 0 ≤ x.den by omega)
    have c4 := Int.mul_le_mul_of_nonneg_right a2.2 (show 0 ≤ x.den by omega)
    simp only [Int.mul_assoc, Int.mul_add] at c1 c2 c3 c4 ⊢
    omega

/-- Amounts times a number. -/
def timesX (k : Int) (x : List Int) : List Int := x.map fun n => k * n
theorem times_getD (k : Int) (x : List Int) (i : Nat) : (timesX k x).getD i 0 = k * x.getD i 0 := by
  unfold timesX
  rw [List.getD_eq_getElem?_getD, List.getD_eq_getElem?_getD, List.getElem?_map]
  cases x[i]? with
  | none => simp
  | some n => rfl
theorem times_sum (k : Int) (x : List Int) : ∀ i : Nat, sumX (timesX k x) i = k * sumX x i
  | 0 => by simp [sumX]
  | i + 1 => by
    show sumX (timesX k x) i + (timesX k x).getD i 0 = k * (sumX x i + x.getD i 0)
    rw [times_sum k x i, times_getD, Int.mul_add]
theorem times_dot (f : Cem → Int) (cs : List Cem) (k : Int) (x : List Int) : ∀ i : Nat, dotTo f cs (timesX k x) i = k * dotTo f cs x i
  | 0 => by simp [dotTo]
  | i + 1 => by
    show dotTo f cs (timesX k x) i + f (cs.getD i cem0) * (timesX k x).getD i 0 = k * (dotTo f cs x i + f (cs.getD i cem0) * x.getD i 0)
    rw [times_dot f cs k x i, times_getD, Int.mul_add, Int.mul_left_comm]
theorem mul_lt_iff {k a b : Int} (hk : 0 < k) : k * a < k * b ↔ a < b := ⟨fun h => by
  by_cases hab : a < b
  · exact hab
  · have := Int.mul_le_mul_of_nonneg_left (show b ≤ a by omega) (show 0 ≤ k by omega)
    omega, fun h => Int.mul_lt_mul_of_pos_left h hk⟩
theorem mul_le_iff {k a b : Int} (hk : 0 < k) : k * a ≤ k * b ↔ a ≤ b := by
  have := mul_lt_iff (a := b) (b := a) hk
  omega
theorem mul_eq_iff {k a b : Int} (hk : 0 < k) : k * a = k * b ↔ a = b := by
  have h1 := mul_le_iff (a := a) (b := b) hk
  have h2 := mul_le_iff (a := b) (b := a) hk
  omega
theorem times_broken {b : Blend} {x : Amts} {k : Int} (hk : 0 < k) : brokenE b ⟨k * x.den, timesX k x.x⟩ = brokenE b x := by
  have e1 : shortB b ⟨k * x.den, timesX k x.x⟩ = shortB b x := by
    unfold shortB
    congr 1
    funext i
    dsimp only
    rw [times_getD, Int.mul_left_comm]
    exact decide_eq_decide.2 (mul_lt_iff hk)
  have e2 : (sumX (timesX k x.x) b.cs.length = b.tot * (k * x.den)) ↔ (sumX x.x b.cs.length = b.tot * x.den) := by
    rw [times_sum, Int.mul_left_comm b.tot]
    exact mul_eq_iff hk
  have e3 : keptB b (timesX k x.x) (k * x.den) = keptB b x.x x.den := by
    unfold keptB
    congr 1
    funext j
    rw [Bool.eq_iff_iff, inBounds_iff, inBounds_iff]
    have e4 : propM b (timesX k x.x) j = k * propM b x.x j := times_dot _ _ _ _ _
    have e5 : ∀ l : Int, l * (b.tot * (k * x.den)) = k * (l * (b.tot * x.den)) := fun l => by rw [Int.mul_left_comm b.tot, Int.mul_left_comm l]
    rw [e4, e5, e5, mul_le_iff hk, mul_le_iff hk]
  unfold brokenE
  dsimp only
  rw [e1, e3]
  by_cases h : sumX x.x b.cs.length = b.tot * x.den
  · rw [if_neg (fun hh => hh h) (c := sumX x.x b.cs.length ≠ b.tot * x.den), if_neg (fun hh => hh (e2.2 h)) (c := sumX (timesX k x.x) b.cs.length ≠ b.tot * (k * x.den))]
  · rw [if_pos h (c := sumX x.x b.cs.length ≠ b.tot * x.den), if_pos (fun hh => h (e2.1 hh)) (c := sumX (timesX k x.x) b.cs.length ≠ b.tot * (k * x.den))]
theorem times_make {k n d : Int} (hk : 0 < k) (hd : 0 < d) : makeR (k * n) (k * d) = makeR n d := by
  have e1 : (k * n).natAbs = k.natAbs * n.natAbs := Int.natAbs_mul k n
  have e2 : (k * d).natAbs = k.natAbs * d.natAbs := Int.natAbs_mul k d
  have hp : 0 < k.natAbs := by omega
  have e3 : k * n < 0 ↔ n < 0 := by
    have := mul_lt_iff (a := n) (b := 0) hk
    rwa [Int.mul_zero] at this
  unfold makeR
  rw [e1, e2, Nat.gcd_mul_left, Nat.mul_div_mul_left _ _ hp, Nat.mul_div_mul_left _ _ hp]
  simp only [e3]
theorem times_cost {b : Blend} {x : List Int} {k : Int} : costM b (timesX k x) = k * costM b x := times_dot _ _ _ _ _
/-- A multiple of all numbers are the same amounts. -/
theorem times_same {b : Blend} {x : Amts} {k : Int} (hk : 0 < k) (hx : rightM b x = true) (hy : rightM b ⟨k * x.den, timesX k x.x⟩ = true) :
    checkE b ⟨k * x.den, timesX k x.x⟩ = checkE b x ∧ costR b ⟨k * x.den, timesX k x.x⟩ = costR b x := by
  have hd := (rightM_iff.1 hx).1
  constructor
  · unfold checkE
    rw [hx, hy, times_broken hk]
  · unfold costR
    rw [hx, hy]
    dsimp only
    rw [times_cost, times_make hk (by omega)]
end Go.AM.E
