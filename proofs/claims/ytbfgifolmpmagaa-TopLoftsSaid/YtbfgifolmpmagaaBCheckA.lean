/-
Loads: sets of goods, what is loaded, what is taken.
-/
import Derived.Test.YtbfgifolmpmagaaBDays
import Derived.Test.YtbfgifolmpmagaaBP
set_option linter.unusedVariables false
set_option linter.unusedSimpArgs false

namespace Go.AM.B
open Go Go.AM Go.Proofs

def setFrom (n : Int) : Int → List Int → Bool
  | _, [] => true
  | p, x :: r => inB x 0 (n - 1) && decide (p < x) && setFrom n x r
def isSetM (l : List Int) (n : Int) : Bool := setFrom n (-1) l
theorem set_split (n : Int) : ∀ (pre post : List Int) (p : Int), setFrom n p (pre ++ post) = (setFrom n p pre && setFrom n (pre.getLastD p) post)
  | [], _, _ => rfl
  | x :: pre, post, p => by
    simp only [List.cons_append, setFrom, set_split n pre post x, Bool.and_assoc, List.getLastD_cons]
theorem set_in {n : Int} : ∀ {l : List Int} {p : Int}, setFrom n p l = true → ∀ x ∈ l, 0 ≤ x ∧ x < n
  | [], _, _, x, hx => by cases hx
  | y :: l, p, h, x, hx => by
    simp only [setFrom, Bool.and_eq_true, inB_iff] at h
    rcases List.mem_cons.1 hx with rfl | hx
    · omega
    · exact set_in h.2 x hx

def loadedM (plan : List Load) (n : Int) : Bool := plan.any fun x => x.goods.contains n

def endM (x : Load) : Int := x.start + x.heats.length
def meetsM (x : Load) (loft a b : Int) : Bool := decide (x.loft = loft) && (decide (x.start < b) && decide (a < endM x))
def takenM (plan : List Load) (loft a b : Int) : Bool := plan.any fun x => meetsM x loft a b

def polesOf (gs : List Goods) (n : Int) : Int := match gs[n.toNat]? with
  | some g => g.poles
  | none => 0
def polesM (gs : List Goods) (l : List Int) : Int := (l.map (polesOf gs)).sum
theorem polesM_snoc (gs : List Goods) (l : List Int) (x : Int) : polesM gs (l ++ [x]) = polesM gs l + polesOf gs x := by simp [polesM]
theorem polesOf_in {gs : List Goods} (hg : ∀ g ∈ gs, goodsOk g = true) (n : Int) : 0 ≤ polesOf gs n ∧ polesOf gs n ≤ 40 := by
  unfold polesOf
  split
  · rename_i g hgg
    have := (goodsOk_iff.1 (hg g (List.mem_of_getElem? hgg))).1
    omega
  · decide
theorem polesM_in {gs : List Goods} (hg : ∀ g ∈ gs, goodsOk g = true) : ∀ l : List Int, 0 ≤ polesM gs l ∧ polesM gs l ≤ 40 * l.length
  | [] => by simp [polesM]
  | x :: l => by
    have h1 := polesOf_in hg x
    have h2 := polesM_in hg l
    have h3 : polesM gs (x :: l) = polesOf gs x + polesM gs l := by simp [polesM]
    rw [h3, List.length_cons]
    omega

end Go.AM.B

