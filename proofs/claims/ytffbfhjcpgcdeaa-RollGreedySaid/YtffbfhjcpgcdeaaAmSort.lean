/-
Insertion sort, as the library does it (plain).
-/
import Derived.Test.YtffbfhjcpgcdeaaAmR
set_option linter.unusedVariables false
set_option linter.unusedSimpArgs false

namespace Go.AM
open Go

section
variable {α : Type} (lt : α → α → Bool)

def bub : Nat → List α → List α
  | 0, l => l
  | j + 1, l => match l[j + 1]?, l[j]? with
    | some x, some y => if lt x y = true then bub j ((l.set (j + 1) y).set j x) else l
    | _, _ => l
def isortTo (l : List α) : Nat → List α
  | 0 => l
  | k + 1 => bub lt (k + 1) (isortTo l k)
def isort (l : List α) : List α := isortTo lt l (l.length - 1)

variable {lt}
theorem bub_step {j : Nat} {l : List α} {x y : α} (hx : l[j + 1]? = some x) (hy : l[j]? = some y) (h : lt x y = true) : bub lt (j + 1) l = bub lt j ((l.set (j + 1) y).set j x) := by
  show (match l[j + 1]?, l[j]? with | some x, some y => _ | _, _ => l) = _
  rw [hx, hy]
  show (if lt x y = true then _ else _) = _
  rw [if_pos h]
theorem bub_stop {j : Nat} {l : List α} {x y : α} (hx : l[j + 1]? = some x) (hy : l[j]? = some y) (h : ¬ lt x y = true) : bub lt (j + 1) l = l := by
  show (match l[j + 1]?, l[j]? with | some x, some y => _ | _, _ => l) = _
  rw [hx, hy]
  show (if lt x y = true then _ else _) = _
  rw [if_neg h]
theorem swap_perm {l : List α} {j : Nat} {x y : α} (hx : l[j + 1]? = some x) (hy : l[j]? = some y) : List.Perm ((l.set (j + 1) y).set j x) l := by
  obtain ⟨h1, rfl⟩ := List.getElem?_eq_some_iff.1 hx
  obtain ⟨h2, rfl⟩ := List.getElem?_eq_some_iff.1 hy
  exact List.set_set_perm h1 h2
theorem bub_perm : ∀ (j : Nat) (l : List α), List.Perm (bub lt j l) l
  | 0, l => List.Perm.refl _
  | j + 1, l => by
    unfold bub
    split
    · rename_i x y hx hy
      split
      · exact (bub_perm j _).trans (swap_perm hx hy)
      · exact List.Perm.refl _
    · exact List.Perm.refl _
theorem isortTo_perm (l : List α) : ∀ k : Nat, List.Perm (isortTo lt l k) l
  | 0 => List.Perm.refl _
  | k + 1 => (bub_perm _ _).trans (isortTo_perm l k)
theorem isort_perm (l : List α) : List.Perm (isort lt l) l := isortTo_perm l _
theorem isort_len (l : List α) : (isort lt l).length = l.length := (isort_perm l).length_eq
theorem isortTo_len (l : List α) (k : Nat) : (isortTo lt l k).length = l.length := (isortTo_perm l k).length_eq

def SortedBut (lt : α → α → Bool) (l : List α) (i j : Nat) : Prop := ∀ a b x y, a < b → b ≤ i → b ≠ j → l[a]? = some x → l[b]? = some y → ¬ lt y x = true
def SortedTo (lt : α → α → Bool) (l : List α) (i : Nat) : Prop := ∀ a b x y, a < b → b ≤ i → l[a]? = some x → l[b]? = some y → ¬ lt y x = true

theorem bub_sorted (asym : ∀ x y, lt x y = true → ¬ lt y x = true) (trans : ∀ x y z, ¬ lt y x = true → ¬ lt z y = true → ¬ lt z x = true) {i : Nat} :
    ∀ (j : Nat) (l : List α), j ≤ i → i < l.length → SortedBut lt l i j → SortedTo lt (bub lt j l) i
  | 0, l, hj, hi, h => fun a b x y hab hb hx hy => h a b x y hab hb (by omega) hx hy
  | j + 1, l, hj, hi, h => by
    have gx : l[j + 1]? = some (l[j + 1]'(by omega)) := List.getElem?_eq_getElem _
    have gy : l[j]? = some (l[j]'(by omega)) := List.getElem?_eq_getElem _
    generalize l[j + 1]'(by omega) = x at *
    generalize l[j]'(by omega) = y at *
    by_cases hlt : lt x y = true
    · rw [bub_step gx gy hlt]
      have get : ∀ m, ((l.set (j + 1) y).set j x)[m]? = if m = j then some x else if m = j + 1 then some y else l[m]? := fun m => by
        by_cases h1 : m = j
        · subst h1
          rw [if_pos rfl, List.getElem?_set_self (by rw [List.length_set]; omega)]
        · rw [if_neg h1, List.getElem?_set_ne (by omega)]
          by_cases h2 : m = j + 1
          · subst h2
            rw [if_pos rfl, List.getElem?_set_self (by omega)]
          · rw [if_neg h2, List.getElem?_set_ne (by omega)]
      refine bub_sorted asym trans j _ (by omega) (by simp; omega) ?_
      intro a b u v hab hb hbj hu hv
      rw [get] at hu hv
      rw [if_neg hbj] at hv
      by_cases hb1 : b = j + 1
      · rw [if_pos hb1] at hv
        cases hv
        by_cases ha : a = j
        · rw [if_pos ha] at hu
          cases hu
          exact asym _ _ hlt
        · rw [if_neg ha, if_neg (by omega)] at hu
          exact h a j u y (by omega) (by omega) (by omega) hu gy
      · rw [if_neg hb1] at hv
        by_cases ha : a = j
        · rw [if_pos ha] at hu
          cases hu
          exact h (j + 1) b x v (by omega) hb (by omega) gx hv
        · rw [if_neg ha] at hu
          by_cases ha1 : a = j + 1
          · rw [if_pos ha1] at hu
            cases hu
            exact h j b y v (by omega) hb (by omega) gy hv
          · rw [if_neg ha1] at hu
            exact h a b u v hab hb hb1 hu hv
    · rw [bub_stop gx gy hlt]
      intro a b u v hab hb hu hv
      by_cases hb1 : b = j + 1
      · subst hb1
        rw [gx] at hv
        cases hv
        by_cases ha : a = j
        · subst ha
          rw [gy] at hu
          cases hu
          exact hlt
        · exact trans u y x (h a j u y (by omega) (by omega) (by omega) hu gy) hlt
      · exact h a b u v hab hb hb1 hu hv
theorem isortTo_sorted (asym : ∀ x y, lt x y = true → ¬ lt y x = true) (trans : ∀ x y z, ¬ lt y x = true → ¬ lt z y = true → ¬ lt z x = true) (l : List α) : ∀ k : Nat, k < l.length → SortedTo lt (isortTo lt l k) k
  | 0, _ => fun a b x y hab hb => by omega
  | k + 1, hk => by
    refine bub_sorted asym trans (k + 1) _ (Nat.le_refl _) (by rw [isortTo_len]; exact hk) ?_
    intro a b x y hab hb hbj hx hy
    exact isortTo_sorted asym trans l k (by omega) a b x y hab (by omega) hx hy
theorem isort_sorted (asym : ∀ x y, lt x y = true → ¬ lt y x = true) (trans : ∀ x y z, ¬ lt y x = true → ¬ lt z y = true → ¬ lt z x = true) (l : List α) {a b : Nat} {x y : α} (hab : a < b) (hx : (isort lt l)[a]? = some x) (hy : (isort lt l)[b]? = some y) : ¬ lt y x = true := by
  have hb := (List.getElem?_eq_some_iff.1 hy).1
  rw [isort_len] at hb
  exact isortTo_sorted asym trans l (l.length - 1) (by omega) a b x y hab (by omega) hx hy
theorem isort_pairwise (asym : ∀ x y, lt x y = true → ¬ lt y x = true) (trans : ∀ x y z, ¬ lt y x = true → ¬ lt z y = true → ¬ lt z x = true) (l : List α) : (isort lt l).Pairwise fun x y => ¬ lt y x = true := by
  rw [List.pairwise_iff_getElem]
  intro i j hi hj hij
  exact isort_sorted asym trans l hij (List.getElem?_eq_getElem hi) (List.getElem?_eq_getElem hj)
end
end Go.AM

