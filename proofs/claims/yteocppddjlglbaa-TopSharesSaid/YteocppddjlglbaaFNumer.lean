/-
The numerator of a share: its recursion and its size.
-/
import Derived.Test.YteocppddjlglbaaFShareP
set_option linter.unusedVariables false
set_option linter.unusedSimpArgs false
set_option maxRecDepth 20000

namespace Go.AM.F

def sumN (f : Part → Nat) : List Part → Nat
  | [] => 0
  | p :: r => f p + sumN f r
theorem sumN_app (f : Part → Nat) : ∀ a b, sumN f (a ++ b) = sumN f a + sumN f b
  | [], b => by simp [sumN]
  | p :: a, b => by simp only [List.cons_append, sumN, sumN_app f a b]; omega
theorem sumN_congr {f g : Part → Nat} : ∀ {ps : List Part}, (∀ p ∈ ps, f p = g p) → sumN f ps = sumN g ps
  | [], _ => rfl
  | p :: r, h => by
    simp only [sumN]
    rw [h p (List.mem_cons_self ..), sumN_congr fun q hq => h q (List.mem_cons_of_mem _ hq)]
theorem sumN_le {f g : Part → Nat} : ∀ {ps : List Part}, (∀ p ∈ ps, f p ≤ g p) → sumN f ps ≤ sumN g ps
  | [], _ => Nat.le_refl _
  | p :: r, h => by
    simp only [sumN]
    have := h p (List.mem_cons_self ..)
    have := sumN_le (ps := r) fun q hq => h q (List.mem_cons_of_mem _ hq)
    omega
theorem sumN_mul (f : Part → Nat) (c : Nat) : ∀ ps : List Part, sumN (fun p => f p * c) ps = sumN f ps * c
  | [] => by simp [sumN]
  | p :: r => by simp only [sumN, sumN_mul f c r, Nat.add_mul]

def numF (l : List Lot) (o : Nat) : Nat → Nat → Nat
  | 0, _ => 0
  | f + 1, i => if i = o then seg l 0 (i + 1) else if o < i then
      sumN (fun p => numF l o f p.lot.toNat * p.mass.toNat * seg l (p.lot.toNat + 1) (i - (p.lot.toNat + 1))) (lotN l i).parts
    else 0
def num (l : List Lot) (o i : Nat) : Nat := numF l o (i + 1) i
theorem num_self {l : List Lot} {i : Nat} : num l i i = seg l 0 (i + 1) := by
  unfold num; simp only [numF, if_true]
theorem num_low {l : List Lot} {o i : Nat} (h : i < o) : num l o i = 0 := by
  unfold num; simp only [numF]
  rw [if_neg (by omega), if_neg (by omega)]
theorem seg_split {l : List Lot} {i p : Nat} (h : p < i) : seg l 0 (p + 1) * seg l (p + 1) (i - (p + 1)) = seg l 0 i := by
  have := seg_add l 0 (p + 1) (i - (p + 1))
  rw [Nat.zero_add, show p + 1 + (i - (p + 1)) = i by omega] at this
  exact this.symm
section
variable {l : List Lot} (v : Valid l)
include v
theorem numF_fuel (o : Nat) : ∀ (f i : Nat), i < f → i < l.length → numF l o f i = num l o i := by
  intro f
  induction f using Nat.strongRecOn with
  | _ f ih =>
    intro i hi hl
    unfold num
    cases f with
    | zero => omega
    | succ f =>
      simp only [numF]
      by_cases h1 : i = o
      · rw [if_pos h1, if_pos h1]
      · rw [if_neg h1, if_neg h1]
        by_cases h2 : o < i
        · rw [if_pos h2, if_pos h2]
          refine sumN_congr fun p hp => ?_
          have he := v.earlier hl
          rw [lotN_at hl] at hp
          have := he p hp
          rw [ih f (by omega) p.lot.toNat (by omega) (by omega)]
          by_cases hif : i < f + 1
          · rcases Nat.lt_or_ge i f with h | h
            · rw [ih i (by omega) p.lot.toNat (by omega) (by omega)]
            · obtain rfl : i = f := by omega
              rw [ih i (by omega) p.lot.toNat (by omega) (by omega)]
          · omega
        · rw [if_neg h2, if_neg h2]
theorem num_up {o i : Nat} (h : o < i) (hi : i < l.length) : num l o i =
    sumN (fun p => num l o p.lot.toNat * p.mass.toNat * seg l (p.lot.toNat + 1) (i - (p.lot.toNat + 1))) l[i].parts := by
  unfold num; simp only [numF]
  rw [if_neg (by omega), if_pos h, lotN_at hi]
  refine sumN_congr fun p hp => ?_
  have he := v.earlier hi p hp
  rw [numF_fuel v o i p.lot.toNat (by omega) (by omega)]
  rfl
theorem sumN_mass {i : Nat} (hi : i < l.length) (h : l[i].parts ≠ []) : sumN (fun p => p.mass.toNat) l[i].parts = tkN l[i] := by
  have h1 := v.parts hi
  have : ∀ ps : List Part, (∀ p ∈ ps, 1 ≤ p.mass ∧ p.mass ≤ 100000) → ((sumN (fun p => p.mass.toNat) ps : Nat) : Int) = sumP ps := by
    intro ps
    induction ps with
    | nil => intro _; rfl
    | cons p r ih =>
      intro hp
      have h2 := hp p (List.mem_cons_self ..)
      have h3 := ih fun q hq => hp q (List.mem_cons_of_mem _ hq)
      simp only [sumN, sumP]
      omega
  have h2 := this l[i].parts h1.2
  unfold tkN
  rw [if_neg h]
  omega
theorem num_le (o : Nat) : ∀ i, i < l.length → num l o i ≤ seg l 0 (i + 1) := by
  intro i
  induction i using Nat.strongRecOn with
  | _ i ih =>
    intro hi
    rcases Nat.lt_trichotomy i o with h | h | h
    · rw [num_low h]; exact Nat.zero_le _
    · subst h; rw [num_self]; exact Nat.le_refl _
    · rw [num_up v h hi]
      have e1 : sumN (fun p => num l o p.lot.toNat * p.mass.toNat * seg l (p.lot.toNat + 1) (i - (p.lot.toNat + 1))) l[i].parts ≤ sumN (fun p => p.mass.toNat * seg l 0 i) l[i].parts := by
        refine sumN_le fun p hp => ?_
        have he := v.earlier hi p hp
        have h2 := ih p.lot.toNat (by omega) (by omega)
        rw [← seg_split (show p.lot.toNat < i by omega), ← Nat.mul_assoc]
        refine Nat.mul_le_mul_right _ ?_
        rw [Nat.mul_comm]
        exact Nat.mul_le_mul_left _ h2
      refine Nat.le_trans e1 ?_
      rw [sumN_mul]
      by_cases hp : l[i].parts = []
      · rw [hp]; simp [sumN]
      · rw [sumN_mass v hi hp, seg, Nat.zero_add, lotN_at hi, Nat.mul_comm]
        exact Nat.le_refl _
end
end Go.AM.F

