/-
Loads: a plan's check, as the program does it.
-/
import Derived.Test.YtbfgifolmpmagaaBCheckE
import Derived.Test.YtbfgifolmpmagaaBLarge
set_option linter.unusedVariables false
set_option linter.unusedSimpArgs false

namespace Go.AM.B
open Go Go.AM Go.Proofs

def checkFrom (l : List Loft) (gs : List Goods) : List Load → List Load → Int
  | pre, [] => if (List.range gs.length).any (fun (i : Nat) => !loadedM pre i) = true then 11 else 0
  | pre, x :: r => if byM l gs x ≠ 0 then byM l gs x else if (x.goods.any (loadedM pre)) = true then 8 else
    if ((pre.map (seeM l gs)).any (meetsK (seeM l gs x))) = true then 10 else checkFrom l gs (pre ++ [x]) r
def checkM (l : List Loft) (gs : List Goods) (plan : List Load) : Int := if bothE l gs ≠ 0 then bothE l gs else checkFrom l gs [] plan

def doneB (n : Nat) (pre : List Load) : List Bool := (List.range n).map fun (i : Nat) => loadedM pre i

theorem done_nil (n : Nat) : (doneB n []).map V.bool = List.replicate n (V.bool false) := by
  unfold doneB
  rw [List.map_map]
  apply List.ext_getElem
  · simp
  · intro i h1 h2; simp [loadedM]
theorem done_any (n : Nat) (pre : List Load) : ((doneB n pre).any fun b => !b) = (List.range n).any (fun (i : Nat) => !loadedM pre i) := by
  unfold doneB; rw [List.any_map]; rfl
theorem done_len (n : Nat) (pre : List Load) : (doneB n pre).length = n := by simp [doneB]
theorem done_get {n : Nat} {pre : List Load} {i : Int} (h : 0 ≤ i ∧ i < n) : (doneB n pre)[i.toNat]? = some (loadedM pre i) := by
  have h1 : i.toNat < n := by omega
  have h2 : ((i.toNat : Nat) : Int) = i := by omega
  unfold doneB
  rw [List.getElem?_map, List.getElem?_range h1, Option.map_some, h2]

def markB (n : Nat) (pre : List Load) (ns : List Int) : List Bool := (List.range n).map fun (i : Nat) => loadedM pre i || ns.contains (i : Int)
theorem mark_nil (n : Nat) (pre : List Load) : markB n pre [] = doneB n pre := by simp [markB, doneB]
theorem mark_all (n : Nat) (pre : List Load) (x : Load) : markB n pre x.goods = doneB n (pre ++ [x]) := by
  unfold markB doneB
  congr 1
  funext i
  simp [loadedM]
theorem mark_len (n : Nat) (pre : List Load) (ns : List Int) : (markB n pre ns).length = n := by simp [markB]
theorem mark_get {n : Nat} {pre : List Load} {ns : List Int} {i : Int} (h : 0 ≤ i ∧ i < n) : (markB n pre ns)[i.toNat]? = some (loadedM pre i || ns.contains i) := by
  have h1 : i.toNat < n := by omega
  have h2 : ((i.toNat : Nat) : Int) = i := by omega
  unfold markB
  rw [List.getElem?_map, List.getElem?_range h1, Option.map_some, h2]
theorem mark_set {n : Nat} {pre : List Load} {ns : List Int} {i : Int} (h : 0 ≤ i ∧ i < n) : ((markB n pre ns).map V.bool).set i.toNat (.bool true) = (markB n pre (ns ++ [i])).map V.bool := by
  apply List.ext_getElem
  · simp [mark_len]
  · intro j h1 h2
    have hj : j < n := by simpa [mark_len] using h2
    rw [List.getElem_set]
    by_cases e : i.toNat = j
    · have e2 : (j : Int) = i := by omega
      rw [if_pos e]
      simp [markB, e2]
    · have e2 : ¬ (j : Int) = i := by omega
      rw [if_neg e]
      simp [markB, e2]

end Go.AM.B

