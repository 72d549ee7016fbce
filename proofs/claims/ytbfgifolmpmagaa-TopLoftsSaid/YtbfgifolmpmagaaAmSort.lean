/-
Insertion sort, as the library does it (plain).
-/
import Derived.Test.YtbfgifolmpmagaaAmR
set_option linter.unusedVariables false
set_option linter.unusedSimpArgs false

namespace Go.AM
open Go

section
variable {α : Type} (lt : α → α → Bool)

def bub : Nat → List α → List α
  | 0, l => l
  | j + 1, l => match l[j + 1]?, l[j]? with
    | some x, some y => if lt x y = true then bub j ((l.set (j + 1) y).set j x) else l
    | _, _ => l
def isortTo (l : List α) : Nat → List α
  | 0 => l
  | k + 1 => bub lt (k + 1) (isortTo l k)
def isort (l : List α) : List α := isortTo lt l (l.length - 1)

variable {lt}
theorem bub_step {j : Nat} {l : List α} {x y : α} (hx : l[j + 1]? = some x) (hy : l[j]? = some y) (h : lt x y = true) : bub lt (j + 1) l = bub lt j ((l.set (j + 1) y).set j x) := by
  show (match l[j + 1]?, l[j]? with | some x, some y => _ | _, _ => l) = _
  rw [hx, hy]
  show (if lt x y = true then _ else _) = _
  rw [if_pos h]
theorem bub_stop {j : Nat} {l : List α} {x y : α} (hx : l[j + 1]? = some x) (hy : l[j]? = some y) (h : ¬ lt x y = true) : bub lt (j + 1) l = l := by
  show (match l[j + 1]?, l[j]? with | some x, some y => _ | _, _ => l) = _
  rw [hx, hy]
  show (if lt x y = true then _ else _) = _
  rw [if_neg h]
theorem swap_perm {l : List α} {j : Nat} {x y : α} (hx : l[j + 1]? = some x) (hy : l[j]? = some y) : List.Perm ((l.set (j + 1) y).set j x) l := by
  obtain ⟨h1, rfl⟩ := List.getElem?_eq_some_iff.1 hx
  obtain ⟨h2, rfl⟩ := List.getElem?_eq_some_iff.1 hy
  exact List.set_set_perm h1 h2
theorem bub_perm : ∀ (j : Nat) (l : List α), List.Perm (bub lt j l) l
  | 0, l => List.Perm.refl _
  | j + 1, l => by
    unfold bub
    split
    · rename_i x y hx hy
      split
      · exact (bub_perm j _).trans (swap_perm hx hy)
      · exact List.Perm.refl _
    · exact List.Perm.refl _
theorem isortTo_perm (l : List α) : ∀ k : Nat, List.Perm (isortTo lt l k) l
  | 0 => List.Perm.refl _
  | k + 1 => (bub_perm _ _).trans (isortTo_perm l k)
theorem isort_perm (l : List α) : List.Perm (isort lt l) l := isortTo_perm l _
theorem isort_len (l : List α) : (isort lt l).length = l.length := (isort_perm l).length_eq
theorem isortTo_len (l : List α) (k : Nat) : (isortTo lt l k).length = l.length := (isortTo_perm l k).length_eq

end
end Go.AM

