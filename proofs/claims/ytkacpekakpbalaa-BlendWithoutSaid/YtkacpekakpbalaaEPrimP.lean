/-
The sums that the search makes, step by step (plain).
-/
import Derived.Test.YtkacpekakpbalaaEOptQ
set_option linter.unusedVariables false
set_option linter.unusedSimpArgs false
set_option maxRecDepth 20000

namespace Go.AM.E
open LP

def updF (f : Nat → Int) (i : Nat) (x : Int) (k : Nat) : Int := if k = i then x else f k
def accF (k : Nat) (at_ : Nat → Nat → Nat) (g : Nat → Nat → Int) (t s i : Nat) : Int :=
  (sumI t fun t' => sumI k fun s' => if at_ t' s' = i then g t' s' else 0) + sumI s fun s' => if at_ t s' = i then g t s' else 0
theorem acc_zero (k : Nat) (p : Nat → Nat → Nat) (g : Nat → Nat → Int) (i : Nat) : accF k p g 0 0 i = 0 := rfl
theorem acc_next (k : Nat) (p : Nat → Nat → Nat) (g : Nat → Nat → Int) (t i : Nat) : accF k p g t k i = accF k p g (t + 1) 0 i := by
  unfold accF
  show (sumI t fun t' => sumI k fun s' => if p t' s' = i then g t' s' else 0) + (sumI k fun s' => if p t s' = i then g t s' else 0) = ((sumI t fun t' => sumI k fun s' => if p t' s' = i then g t' s' else 0) + (sumI k fun s' => if p t s' = i then g t s' else 0)) + 0
  omega
theorem acc_step (k : Nat) (p : Nat → Nat → Nat) (g : Nat → Nat → Int) (t s i : Nat) : accF k p g t (s + 1) i = if i = p t s then accF k p g t s i + g t s else accF k p g t s i := by
  unfold accF
  show _ + (sumI s _ + if p t s = i then g t s else 0) = _
  by_cases h : i = p t s
  · rw [if_pos h, if_pos h.symm]; omega
  · rw [if_neg h, if_neg fun e => h e.symm]; omega
theorem acc_in {k : Nat} {p : Nat → Nat → Nat} {g : Nat → Nat → Int} {B : Int} (hB : 0 ≤ B) (hk : k ≤ 4) (h : ∀ t s, t < k → s < k → -B ≤ g t s ∧ g t s ≤ B) {t s : Nat} (ht : t ≤ k) (hs : s ≤ k) (hts : t < k ∨ s = 0) (i : Nat) : -(20 * B) ≤ accF k p g t s i ∧ accF k p g t s i ≤ 20 * B := by
  unfold accF
  have h1 := sumI_in (n := t) (f := fun t' => sumI k fun s' => if p t' s' = i then g t' s' else 0) (B := 4 * B) fun t' ht' => by
    have := sumI_in (n := k) (f := fun s' => if p t' s' = i then g t' s' else 0) (B := B) fun s' hs' => by
      have := h t' s' (by omega) hs'
      split <;> omega
    have e : (k : Int) * B ≤ 4 * B := Int.mul_le_mul_of_nonneg_right (by omega) hB
    omega
  have h2 := sumI_in (n := s) (f := fun s' => if p t s' = i then g t s' else 0) (B := B) fun s' hs' => by
    rcases hts with htk | h0
    · have := h t s' htk (by omega)
      split <;> omega
    · omega
  have e1 : (t : Int) * (4 * B) ≤ 4 * (4 * B) := Int.mul_le_mul_of_nonneg_right (by omega) (by omega)
  have e2 : (s : Int) * B ≤ 4 * B := Int.mul_le_mul_of_nonneg_right (by omega) hB
  omega

def costG (b : Blend) (x : Bs) (t s : Nat) : Int := sgD (detB b x) * coAt b (x.col s) * inv b x s t
def wAcc (b : Blend) (x : Bs) : Nat → Nat → Nat → Int := accF x.k (fun t _ => x.row t) (costG b x)
theorem wAcc_upd (b : Blend) (x : Bs) (t s : Nat) : updF (wAcc b x t s) (x.row t) (wAcc b x t s (x.row t) + costG b x t s) = wAcc b x t (s + 1) := by
  funext i
  unfold updF wAcc
  rw [acc_step]
  by_cases h : i = x.row t
  · rw [if_pos h, if_pos h, h]
  · rw [if_neg h, if_neg h]
theorem wAcc_zero (b : Blend) (x : Bs) : wAcc b x 0 0 = fun _ => 0 := by funext i; exact acc_zero _ _ _ _
theorem wAcc_next (b : Blend) (x : Bs) (t : Nat) : wAcc b x t x.k = wAcc b x (t + 1) 0 := by funext i; exact acc_next _ _ _ _ _
theorem sum_ite (n : Nat) (c : Prop) [Decidable c] (f : Nat → Int) : (sumI n fun i => if c then f i else 0) = if c then sumI n f else 0 := by
  by_cases h : c
  · rw [if_pos h]; exact sumI_congr fun i _ => if_pos h
  · rw [if_neg h, sumI_congr (g := fun _ => 0) fun i _ => if_neg h, sumI_zero]
theorem wAcc_all (b : Blend) (x : Bs) : wAcc b x x.k 0 = wD b x := by
  funext i
  unfold wAcc accF wD onRows
  show _ + 0 = _
  rw [Int.add_zero]
  refine sumI_congr fun t _ => ?_
  rw [sum_ite]
  rfl
theorem costG_in {b : Blend} (hb : Valid b) {x : Bs} (hx : IsBase b x) {t s : Nat} (ht : t < x.k) (hs : s < x.k) : -48000000 ≤ costG b x t s ∧ costG b x t s ≤ 48000000 := by
  have h1 := mul_both (cem_at hb (col_lt' hx hs)).2.1 (inv_small hb hx hs ht)
  have h2 := sg_mul (d := detB b x) h1
  unfold costG
  rw [Int.mul_assoc]
  omega
theorem wAcc_in {b : Blend} (hb : Valid b) {x : Bs} (hx : IsBase b x) {t s : Nat} (ht : t ≤ x.k) (hs : s ≤ x.k) (hts : t < x.k ∨ s = 0) (i : Nat) : -960000000 ≤ wAcc b x t s i ∧ wAcc b x t s i ≤ 960000000 := by
  have := acc_in (p := fun t _ => x.row t) (g := costG b x) (B := 48000000) (by decide) (k_le hb hx) (fun t s ht hs => costG_in hb hx ht hs) ht hs hts i
  unfold wAcc
  omega

def restTo (b : Blend) (x : Bs) (high full t i : Nat) : Int := edgeM b high (x.row t) - sumI i fun j => if bit x.cs j = true then 0 else (coefB b (x.row t) j * fixM b x full j).tdiv (denB b x)
theorem restTo_zero (b : Blend) (x : Bs) (high full t : Nat) : restTo b x high full t 0 = edgeM b high (x.row t) := by unfold restTo; show _ - 0 = _; omega
theorem restTo_in {b : Blend} {x : Bs} {high full t i : Nat} (h : bit x.cs i = true) : restTo b x high full t (i + 1) = restTo b x high full t i := by
  unfold restTo
  show _ - (sumI i _ + if bit x.cs i = true then 0 else _) = _
  rw [if_pos h]; omega
theorem restTo_out {b : Blend} {x : Bs} {high full t i : Nat} (h : bit x.cs i = false) : restTo b x high full t (i + 1) = restTo b x high full t i - (coefB b (x.row t) i * fixM b x full i).tdiv (denB b x) := by
  unfold restTo
  show _ - (sumI i _ + if bit x.cs i = true then 0 else _) = _
  rw [if_neg (by rw [h]; decide)]; omega
theorem restTo_all (b : Blend) (x : Bs) (high full t : Nat) : restTo b x high full t b.cs.length = restM b x high full t := rfl
theorem fixM_in {b : Blend} (hb : Valid b) {x : Bs} (hx : IsBase b x) (full : Nat) {i : Nat} (hi : i < b.cs.length) : 0 ≤ fixM b x full i ∧ fixM b x full i ≤ 192000000 := by
  have hd := denB_small hb hx
  have hs := (cem_at hb hi).1
  have h1 := Int.mul_nonneg hs.1 (show 0 ≤ denB b x by omega)
  have h2 := Int.mul_le_mul hs.2 hd.2 (by omega) (by decide)
  unfold fixM
  split
  · omega
  · split <;> omega
theorem quo_in {b : Blend} (hb : Valid b) {x : Bs} (hx : IsBase b x) (full : Nat) {r i : Nat} (hi : i < b.cs.length) : 0 ≤ (coefB b r i * fixM b x full i).tdiv (denB b x) ∧ (coefB b r i * fixM b x full i).tdiv (denB b x) ≤ 20000 := by
  have hd := denB_small hb hx
  have hs := (cem_at hb hi).1
  have hc := coef_in hb (r := r) hi
  unfold fixM
  split
  · simp
  · split
    · rw [← Int.mul_assoc, Int.mul_tdiv_cancel _ (by omega)]
      have h1 := Int.mul_nonneg hc.1 hs.1
      have h2 := Int.mul_le_mul hc.2 hs.2 hs.1 (by decide)
      omega
    · simp
theorem edge_in {b : Blend} (hb : Valid b) (high r : Nat) : 0 ≤ edgeM b high r ∧ edgeM b high r ≤ 20000 := by
  have ht := hb.1
  have hl : ∀ l : List Int, (∀ n ∈ l, 0 ≤ n ∧ n ≤ 20) → ∀ k, 0 ≤ l.getD k 0 ∧ l.getD k 0 ≤ 20 := by
    intro l hl k
    by_cases h : k < l.length
    · rw [getD_in h]; exact hl _ (List.getElem_mem h)
    · rw [getD_out (by omega)]; decide
  have h1 := hl b.lo hb.2.2.2.2.1 (r - 1)
  have h2 := hl b.hi hb.2.2.2.2.2.1 (r - 1)
  have m1 := Int.mul_nonneg (show 0 ≤ b.tot by omega) h1.1
  have m2 := Int.mul_nonneg (show 0 ≤ b.tot by omega) h2.1
  have m3 := Int.mul_le_mul ht.2 h1.2 h1.1 (by decide)
  have m4 := Int.mul_le_mul ht.2 h2.2 h2.1 (by decide)
  unfold edgeM
  split
  · omega
  · split <;> omega
theorem restTo_small {b : Blend} (hb : Valid b) {x : Bs} (hx : IsBase b x) (high full t : Nat) : ∀ i, i ≤ b.cs.length → -((i : Int) * 20000) ≤ restTo b x high full t i ∧ restTo b x high full t i ≤ 20000
  | 0, _ => by rw [restTo_zero]; have := edge_in hb high (x.row t); omega
  | i + 1, h => by
    have ih := restTo_small hb hx high full t i (by omega)
    cases hc : bit x.cs i with
    | true => rw [restTo_in hc]; omega
    | false =>
      rw [restTo_out hc]
      have := quo_in hb hx full (r := x.row t) (show i < b.cs.length by omega)
      omega
theorem rest_small {b : Blend} (hb : Valid b) {x : Bs} (hx : IsBase b x) (high full t : Nat) : -100000 ≤ restM b x high full t ∧ restM b x high full t ≤ 20000 := by
  have := restTo_small hb hx high full t b.cs.length (Nat.le_refl _)
  rw [restTo_all] at this
  have := hb.2.1.2
  omega
def amtG (b : Blend) (x : Bs) (high full t s : Nat) : Int := sgD (detB b x) * inv b x s t * restM b x high full t
def xAcc (b : Blend) (x : Bs) (high full t s i : Nat) : Int := fixM b x full i + accF x.k (fun _ s => x.col s) (amtG b x high full) t s i
theorem xAcc_zero (b : Blend) (x : Bs) (high full : Nat) : xAcc b x high full 0 0 = fixM b x full := by funext i; unfold xAcc; rw [acc_zero]; omega
theorem xAcc_next (b : Blend) (x : Bs) (high full t : Nat) : xAcc b x high full t x.k = xAcc b x high full (t + 1) 0 := by funext i; unfold xAcc; rw [acc_next]
theorem xAcc_upd (b : Blend) (x : Bs) (high full t s : Nat) : updF (xAcc b x high full t s) (x.col s) (xAcc b x high full t s (x.col s) + amtG b x high full t s) = xAcc b x high full t (s + 1) := by
  funext i
  unfold updF xAcc
  rw [acc_step]
  by_cases h : i = x.col s
  · rw [if_pos h, if_pos h, h]; omega
  · rw [if_neg h, if_neg h]
theorem xAcc_all (b : Blend) (x : Bs) (high full : Nat) : xAcc b x high full x.k 0 = amtM b x high full := by
  funext i
  unfold xAcc accF amtM
  show _ + (_ + 0) = _
  rw [Int.add_zero]
  rfl
theorem xAcc_out {b : Blend} {x : Bs} (hx : IsBase b x) (high full : Nat) {t s i : Nat} (hs : s ≤ x.k) (hi : bit x.cs i = false) : xAcc b x high full t s i = fixM b x full i := by
  have hne : ∀ s, s < x.k → x.col s ≠ i := by
    intro s hs e
    have := (mem_memM.1 (col_mem hx hs)).2
    rw [e, hi] at this; cases this
  unfold xAcc accF
  rw [sumI_congr (g := fun _ => 0) (fun t' _ => ?_), sumI_zero, sumI_congr (n := s) (g := fun _ => 0) (fun s' hs' => if_neg (hne s' (by omega))), sumI_zero]
  · omega
  · rw [sumI_congr (g := fun _ => 0) (fun s' hs' => if_neg (hne s' hs')), sumI_zero]
theorem amtG_in {b : Blend} (hb : Valid b) {x : Bs} (hx : IsBase b x) (high full : Nat) {t s : Nat} (ht : t < x.k) (hs : s < x.k) : -4800000000 ≤ amtG b x high full t s ∧ amtG b x high full t s ≤ 4800000000 := by
  have h1 := sg_mul (d := detB b x) (inv_small hb hx hs ht)
  have h2 := rest_small hb hx high full t
  have e1 := Int.mul_nonneg (a := 48000 - sgD (detB b x) * inv b x s t) (b := 100000 - restM b x high full t) (by omega) (by omega)
  have e2 := Int.mul_nonneg (a := 48000 - sgD (detB b x) * inv b x s t) (b := 100000 + restM b x high full t) (by omega) (by omega)
  have e3 := Int.mul_nonneg (a := 48000 + sgD (detB b x) * inv b x s t) (b := 100000 - restM b x high full t) (by omega) (by omega)
  have e4 := Int.mul_nonneg (a := 48000 + sgD (detB b x) * inv b x s t) (b := 100000 + restM b x high full t) (by omega) (by omega)
  unfold amtG
  constructor <;> grind
theorem xAcc_in {b : Blend} (hb : Valid b) {x : Bs} (hx : IsBase b x) (high full : Nat) {t s i : Nat} (ht : t ≤ x.k) (hs : s ≤ x.k) (hts : t < x.k ∨ s = 0) (hi : i < b.cs.length) : -100000000000 ≤ xAcc b x high full t s i ∧ xAcc b x high full t s i ≤ 100000000000 := by
  have h1 := acc_in (p := fun _ s => x.col s) (g := amtG b x high full) (B := 4800000000) (by decide) (k_le hb hx) (fun t s ht hs => amtG_in hb hx high full ht hs) ht hs hts i
  have h2 := fixM_in hb hx full hi
  unfold xAcc
  omega
end Go.AM.E

