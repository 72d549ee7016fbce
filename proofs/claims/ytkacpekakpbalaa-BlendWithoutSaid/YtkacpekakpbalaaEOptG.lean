/-
Rows and cements of a basis: the inverse, the prices of the costs, the amounts (plain).
-/
import Derived.Test.YtkacpekakpbalaaEOptF
set_option linter.unusedVariables false
set_option linter.unusedSimpArgs false
set_option maxRecDepth 20000

namespace Go.AM.E
open LP

theorem cast_sumI (n : Nat) (f : Nat → Int) : ((sumI n f : Int) : Rat) = S n fun i => (f i : Rat) := by
  induction n with
  | zero => rfl
  | succ n ih => show ((sumI n f + f n : Int) : Rat) = S n _ + (f n : Rat); rw [Rat.intCast_add, ih]
def bit (s i : Nat) : Bool := s / 2 ^ i % 2 == 1
theorem mem_memM {s i : Nat} : i ∈ memM s ↔ i < 5 ∧ bit s i = true := by unfold memM bit; simp
theorem memM_lt {s i : Nat} (h : i ∈ memM s) : i < 5 := (mem_memM.1 h).1
theorem memM_sorted (s : Nat) : (memM s).Pairwise (· < ·) := List.Pairwise.filter _ List.pairwise_lt_range
theorem memM_inj {s i j : Nat} (hi : i < (memM s).length) (hj : j < (memM s).length) (h : (memM s)[i] = (memM s)[j]) : i = j := by
  have hp := List.pairwise_iff_getElem.1 (memM_sorted s)
  rcases Nat.lt_trichotomy i j with h1 | h1 | h1
  · have := hp i j hi hj h1; omega
  · exact h1
  · have := hp j i hj hi h1; omega
theorem bit_lt {s n i : Nat} (h : s < 2 ^ n) (hb : bit s i = true) : i < n := by
  apply Classical.byContradiction
  intro hi
  unfold bit at hb
  have : 2 ^ n ≤ 2 ^ i := Nat.pow_le_pow_right (by decide) (by omega)
  rw [Nat.div_eq_of_lt (by omega)] at hb
  cases hb
theorem memM_bound {s n i : Nat} (h : s < 2 ^ n) (hi : i ∈ memM s) : i < n := bit_lt h (mem_memM.1 hi).2

structure Bs where
  rs : Nat
  cs : Nat
def Bs.R (x : Bs) : List Nat := memM x.rs
def Bs.C (x : Bs) : List Nat := memM x.cs
def Bs.k (x : Bs) : Nat := x.R.length
def Bs.row (x : Bs) (t : Nat) : Nat := x.R.getD t 0
def Bs.col (x : Bs) (s : Nat) : Nat := x.C.getD s 0
def matB (b : Blend) (x : Bs) : List (List Int) := matRC (coefB b) x.R x.C
def detB (b : Blend) (x : Bs) : Int := detF x.k (matB b x)
def IsBase (b : Blend) (x : Bs) : Prop := x.rs < 2 ^ (b.lo.length + 1) ∧ x.cs < 2 ^ b.cs.length ∧ x.C.length = x.R.length ∧ detB b x ≠ 0
def inv (b : Blend) (x : Bs) (s t : Nat) : Int := cofM x.k (matB b x) s t
def sgD (d : Int) : Int := if d < 0 then -1 else 1
def denB (b : Blend) (x : Bs) : Int := sgD (detB b x) * detB b x
theorem sgD_mul (d : Int) : sgD d * d = d.natAbs := by unfold sgD; split <;> omega
theorem map_getD {l : List Nat} {α : Type} (f : Nat → α) : l.map f = (List.range l.length).map fun i => f (l.getD i 0) := by
  apply List.ext_getElem
  · simp
  · intro i h1 h2
    simp only [List.getElem_map, List.getElem_range]
    rw [getD_in]
theorem k_le {b : Blend} {x : Bs} (hb : Valid b) (hx : IsBase b x) : x.k ≤ 4 := by
  have h : ∀ rs, rs < 16 → (memM rs).length ≤ 4 := by decide
  have h1 := hx.1
  have : 2 ^ (b.lo.length + 1) ≤ 2 ^ 4 := Nat.pow_le_pow_right (by decide) (by have := hb.2.2.1; omega)
  exact h x.rs (by omega)
theorem row_mem {x : Bs} {t : Nat} (ht : t < x.k) : x.row t ∈ x.R := by unfold Bs.row; rw [getD_in ht]; exact List.getElem_mem _
theorem col_mem {b : Blend} {x : Bs} (hx : IsBase b x) {s : Nat} (hs : s < x.k) : x.col s ∈ x.C := by
  have := hx.2.2.1
  unfold Bs.col; rw [getD_in (by unfold Bs.k at hs; omega)]; exact List.getElem_mem _
theorem row_lt {b : Blend} {x : Bs} (hx : IsBase b x) {t : Nat} (ht : t < x.k) : x.row t ≤ b.lo.length := by have := memM_bound hx.1 (row_mem ht); omega
theorem col_lt' {b : Blend} {x : Bs} (hx : IsBase b x) {s : Nat} (hs : s < x.k) : x.col s < b.cs.length := memM_bound hx.2.1 (col_mem hx hs)
theorem col_of {b : Blend} {x : Bs} (hx : IsBase b x) {c : Nat} (h : c ∈ x.C) : ∃ s, s < x.k ∧ x.col s = c := by
  obtain ⟨s, hs, e⟩ := List.getElem_of_mem h
  have := hx.2.2.1
  exact ⟨s, by unfold Bs.k; omega, by unfold Bs.col; rw [getD_in hs, e]⟩
theorem row_of {x : Bs} {r : Nat} (h : r ∈ x.R) : ∃ t, t < x.k ∧ x.row t = r := by
  obtain ⟨t, ht, e⟩ := List.getElem_of_mem h
  exact ⟨t, ht, by unfold Bs.row; rw [getD_in ht, e]⟩
theorem matB_eq {b : Blend} {x : Bs} (hx : IsBase b x) : matB b x = matA x.k fun t s => coefB b (x.row t) (x.col s) := by
  unfold matB matRC matA
  rw [map_getD]
  refine List.map_congr_left fun t _ => ?_
  rw [map_getD, show x.C.length = x.k from hx.2.2.1]
  rfl
def crm (b : Blend) (x : Bs) (s c : Nat) : Int := sumI x.k fun t => inv b x s t * coefB b (x.row t) c
theorem crm_col {b : Blend} {x : Bs} (hb : Valid b) (hx : IsBase b x) {s s' : Nat} (hs : s < x.k) (hs' : s' < x.k) : crm b x s (x.col s') = if s' = s then detB b x else 0 := by
  unfold crm inv detB
  rw [matB_eq hx]
  exact cof_at' (k_le hb hx) hs hs' _
theorem crm_det {b : Blend} {x : Bs} (hb : Valid b) (hx : IsBase b x) {s c : Nat} (hs : s < x.k) : crm b x s c = detF x.k (matA x.k (colA (fun t s => coefB b (x.row t) (x.col s)) s fun t => coefB b (x.row t) c)) := by
  unfold crm inv
  rw [matB_eq hx]
  exact cof_col (k_le hb hx) hs _ _

def onRows (x : Bs) (f : Nat → Int) (row : Nat) : Int := sumI x.k fun t => if x.row t = row then f t else 0
def dotI (w : Nat → Int) (b : Blend) (c : Nat) : Int := w 0 * coefB b 0 c + w 1 * coefB b 1 c + w 2 * coefB b 2 c + w 3 * coefB b 3 c
theorem four_rows {f : Int} {r : Nat} (hr : r < 4) (g : Nat → Int) : (if r = 0 then f else 0) * g 0 + (if r = 1 then f else 0) * g 1 + (if r = 2 then f else 0) * g 2 + (if r = 3 then f else 0) * g 3 = f * g r := by
  match r with
  | 0 | 1 | 2 | 3 => simp
  | _ + 4 => omega
theorem onRows_dot {b : Blend} {x : Bs} (hb : Valid b) (hx : IsBase b x) (f : Nat → Int) (c : Nat) : dotI (onRows x f) b c = sumI x.k fun t => f t * coefB b (x.row t) c := by
  unfold dotI onRows
  have e : ∀ g : Nat → Int, ∀ a : Int, sumI x.k g * a = sumI x.k fun t => g t * a := by
    intro g a
    rw [Int.mul_comm, ← sumI_mul]
    exact sumI_congr fun i _ => Int.mul_comm _ _
  rw [e, e, e, e, ← sumI_add, ← sumI_add, ← sumI_add]
  refine sumI_congr fun t ht => ?_
  have := row_lt hx ht
  have h3 := hb.2.2.1
  exact four_rows (r := x.row t) (f := f t) (by omega) (fun r => coefB b r c)
theorem onRows_out {x : Bs} {f : Nat → Int} {r : Nat} (h : r ∉ x.R) : onRows x f r = 0 := by
  unfold onRows
  rw [sumI_congr (g := fun _ => 0) (fun t ht => ?_), sumI_zero]
  refine if_neg fun e => h ?_
  rw [← e]
  unfold Bs.row
  rw [getD_in ht]
  exact List.getElem_mem _
def wD (b : Blend) (x : Bs) : Nat → Int := onRows x fun t => sumI x.k fun s => sgD (detB b x) * coAt b (x.col s) * inv b x s t
theorem wD_dot {b : Blend} {x : Bs} (hb : Valid b) (hx : IsBase b x) (c : Nat) : dotI (wD b x) b c = sumI x.k fun s => sgD (detB b x) * coAt b (x.col s) * crm b x s c := by
  unfold wD
  rw [onRows_dot hb hx]
  have e : ∀ t, (sumI x.k fun s => sgD (detB b x) * coAt b (x.col s) * inv b x s t) * coefB b (x.row t) c = sumI x.k fun s => sgD (detB b x) * coAt b (x.col s) * (inv b x s t * coefB b (x.row t) c) := by
    intro t
    rw [Int.mul_comm, ← sumI_mul]
    exact sumI_congr fun i _ => by grind
  rw [sumI_congr fun t _ => e t, sumI_swap]
  refine sumI_congr fun s hs => ?_
  rw [sumI_mul]
  rfl
theorem wD_col {b : Blend} {x : Bs} (hb : Valid b) (hx : IsBase b x) {c : Nat} (hc : c ∈ x.C) : dotI (wD b x) b c = denB b x * coAt b c := by
  obtain ⟨s, hs, e⟩ := col_of hx hc
  rw [wD_dot hb hx, ← e, sumI_congr (g := fun s' => if s' = s then denB b x * coAt b (x.col s) else 0), sumI_one _ hs]
  intro s' hs'
  rw [crm_col hb hx hs' hs]
  by_cases h : s = s'
  · rw [if_pos h, if_pos h.symm, h]; unfold denB; grind
  · rw [if_neg h, if_neg (fun h' => h h'.symm)]; omega
end Go.AM.E

