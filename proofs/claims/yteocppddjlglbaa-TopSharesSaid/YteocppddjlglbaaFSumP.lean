/-
The sums of shares: over the received lots in a lot, and over all lots with what is left and lost of them.
-/
import Derived.Test.YteocppddjlglbaaFPath
import Derived.Test.YteocppddjlglbaaFSrc
set_option linter.unusedVariables false
set_option linter.unusedSimpArgs false
set_option maxRecDepth 20000

namespace Go.AM.F

def sumR (F : Nat → Nat) : Nat → Nat
  | 0 => 0
  | n + 1 => sumR F n + F n
theorem sumR_congr {F G : Nat → Nat} : ∀ {n}, (∀ i, i < n → F i = G i) → sumR F n = sumR G n
  | 0, _ => rfl
  | n + 1, h => by simp only [sumR]; rw [sumR_congr fun i hi => h i (by omega), h n (by omega)]
theorem sumR_zero : ∀ n, sumR (fun _ => 0) n = 0
  | 0 => rfl
  | n + 1 => by simp only [sumR, sumR_zero n]
theorem sumR_add (F G : Nat → Nat) : ∀ n, sumR (fun i => F i + G i) n = sumR F n + sumR G n
  | 0 => rfl
  | n + 1 => by simp only [sumR, sumR_add F G n]; omega
theorem sumR_mul (F : Nat → Nat) (c : Nat) : ∀ n, sumR (fun i => F i * c) n = sumR F n * c
  | 0 => by simp [sumR]
  | n + 1 => by simp only [sumR, sumR_mul F c n, Nat.add_mul]
theorem sumR_single {F : Nat → Nat} {i : Nat} : ∀ {n}, i < n → (∀ j, j < n → j ≠ i → F j = 0) → sumR F n = F i
  | 0, h, _ => by omega
  | n + 1, h, hz => by
    simp only [sumR]
    by_cases hi : i = n
    · subst hi
      have : sumR F i = sumR (fun _ => 0) i := sumR_congr fun j hj => hz j (by omega) (by omega)
      rw [this, sumR_zero, Nat.zero_add]
    · rw [sumR_single (by omega) fun j hj hne => hz j (by omega) hne, hz n (by omega) (by omega), Nat.add_zero]
theorem sumN_zero : ∀ ps : List Part, sumN (fun _ => 0) ps = 0
  | [] => rfl
  | _ :: r => by simp only [sumN, sumN_zero r]
theorem sumR_sumN (G : Nat → Part → Nat) (n : Nat) : ∀ ps : List Part, sumR (fun i => sumN (G i) ps) n = sumN (fun p => sumR (fun i => G i p) n) ps
  | [] => by simp only [sumN]; exact sumR_zero n
  | p :: r => by simp only [sumN]; rw [sumR_add, sumR_sumN G n r]
theorem sumR_swap (G : Nat → Nat → Nat) (n : Nat) : ∀ m, sumR (fun i => sumR (G i) m) n = sumR (fun j => sumR (fun i => G i j) n) m
  | 0 => by simp only [sumR]; exact sumR_zero n
  | m + 1 => by simp only [sumR]; rw [sumR_add, sumR_swap G n m]

def sumX (F : Nat → Nat) : List Nat → Nat
  | [] => 0
  | x :: r => F x + sumX F r
theorem sumX_app (F : Nat → Nat) : ∀ a b, sumX F (a ++ b) = sumX F a + sumX F b
  | [], b => by simp [sumX]
  | x :: a, b => by simp only [List.cons_append, sumX, sumX_app F a b]; omega

def isRec (l : List Lot) (j : Nat) : Bool := decide ((lotN l j).parts = [])
theorem sumX_src (l : List Lot) (f : Nat → Bool) (F : Nat → Nat) : ∀ n, sumX F (srcM l f n) = sumR (fun j => if isSrc l f j = true then F j else 0) n
  | 0 => rfl
  | n + 1 => by
    rw [srcM_succ, sumR]
    by_cases h : isSrc l f n = true
    · rw [if_pos h, if_pos h, sumX_app, sumX_src l f F n]; simp [sumX]
    · rw [if_neg h, if_neg h, sumX_src l f F n]; rfl

section
variable {l : List Lot} (v : Valid l)
include v
theorem mass_sum {i : Nat} (hi : i < l.length) (h : l[i].parts ≠ []) : sumN (fun p => p.mass.toNat * seg l 0 i) l[i].parts = seg l 0 (i + 1) := by
  rw [sumN_mul, sumN_mass v hi h, seg, Nat.zero_add, lotN_at hi, Nat.mul_comm]
theorem rec_sum : ∀ i, i < l.length → sumR (fun j => if isRec l j = true then num l j i else 0) l.length = seg l 0 (i + 1) := by
  intro i
  induction i using Nat.strongRecOn with
  | _ i ih =>
    intro hi
    by_cases hr : l[i].parts = []
    · rw [sumR_single hi fun j hj hne => ?_]
      · rw [if_pos (by unfold isRec; rw [lotN_at hi, hr]; rfl), num_self]
      · split
        · rw [num_any v hi (fun h => hne h.symm), hr]; rfl
        · rfl
    · have hnr : isRec l i = false := by unfold isRec; rw [lotN_at hi]; simp [hr]
      have e1 : sumR (fun j => if isRec l j = true then num l j i else 0) l.length =
          sumR (fun j => sumN (fun p => (if isRec l j = true then num l j p.lot.toNat else 0) * (p.mass.toNat * seg l (p.lot.toNat + 1) (i - (p.lot.toNat + 1)))) l[i].parts) l.length := by
        refine sumR_congr fun j hj => ?_
        by_cases hj2 : isRec l j = true
        · have hne : i ≠ j := fun h => by subst h; rw [hnr] at hj2; cases hj2
          rw [if_pos hj2, num_any v hi hne]
          refine sumN_congr fun p _ => ?_
          rw [if_pos hj2]
          unfold termN
          rw [Nat.mul_assoc]
        · rw [if_neg hj2]
          have : sumN (fun p => (if isRec l j = true then num l j p.lot.toNat else 0) * (p.mass.toNat * seg l (p.lot.toNat + 1) (i - (p.lot.toNat + 1)))) l[i].parts = sumN (fun _ => 0) l[i].parts := sumN_congr fun p _ => by rw [if_neg hj2, Nat.zero_mul]
          rw [this, sumN_zero]
      rw [e1, sumR_sumN, ← mass_sum v hi hr]
      refine sumN_congr fun p hp => ?_
      have he := v.earlier hi p hp
      rw [sumR_mul, ih p.lot.toNat (by omega) (by omega), ← seg_split (show p.lot.toNat < i by omega)]
      ac_rfl
theorem num_reach {i : Nat} {f : Nat → Bool} (hf : Elders l i f) (j : Nat) : ∀ k, k < l.length → f k = true → num l j k ≠ 0 → f j = true := by
  intro k
  induction k using Nat.strongRecOn with
  | _ k ih =>
    intro hk hfk hn
    by_cases h : k = j
    · subst h; exact hfk
    · rw [num_any v hk h] at hn
      have : ∃ p ∈ l[k].parts, termN l j k p ≠ 0 := by
        refine Classical.byContradiction fun hh => hn ?_
        have : sumN (termN l j k) l[k].parts = sumN (fun _ => 0) l[k].parts := sumN_congr fun p hp => Classical.byContradiction fun h2 => hh ⟨p, hp, h2⟩
        rw [this, sumN_zero]
      obtain ⟨p, hp, ht⟩ := this
      have he := v.earlier hk p hp
      refine ih p.lot.toNat (by omega) (by omega) (hf.parts k hk hfk p (by rw [lotN_at hk]; exact hp)) fun h0 => ht ?_
      unfold termN
      rw [h0]; simp
theorem src_sum {i : Nat} (hi : i < l.length) {f : Nat → Bool} (hf : Elders l i f) : sumX (fun j => num l j i) (srcM l f l.length) = seg l 0 (i + 1) := by
  rw [sumX_src, ← rec_sum v i hi]
  refine sumR_congr fun j hj => ?_
  unfold isSrc isRec
  cases hfj : f j with
  | true => rw [Bool.true_and]
  | false =>
    rw [Bool.false_and, if_neg (by simp)]
    split
    · refine (Classical.byContradiction fun hn => ?_)
      have := num_reach v hf j i hi hf.self (fun h => hn h.symm)
      rw [hfj] at this; cases this
    · rfl
end

def numC (l : List Lot) (o i : Nat) : Nat := num l o i * seg l (i + 1) (l.length - (i + 1))
def tkX (i : Nat) (ps : List Part) : Nat := sumN (fun p => if p.lot.toNat = i then p.mass.toNat else 0) ps
def usedX (l : List Lot) (i : Nat) : Nat := sumR (fun j => tkX i (lotN l j).parts) l.length
def hadX (l : List Lot) (i : Nat) : Nat := if isRec l i = true then (lotN l i).mass.toNat else tkN (lotN l i)
section
variable {l : List Lot} (v : Valid l)
include v
theorem numC_made {o j : Nat} (hj : j < l.length) (hjo : j ≠ o) (hr : isRec l j = false) : sumN (fun p => numC l o p.lot.toNat * p.mass.toNat) (lotN l j).parts = numC l o j * tkN (lotN l j) := by
  have h1 : ∀ p ∈ (lotN l j).parts, numC l o p.lot.toNat * p.mass.toNat = termN l o j p * (tkN (lotN l j) * seg l (j + 1) (l.length - (j + 1))) := fun p hp => by
    rw [lotN_at hj] at hp
    have he := v.earlier hj p hp
    have e : seg l (p.lot.toNat + 1) (l.length - (p.lot.toNat + 1)) = seg l (p.lot.toNat + 1) (j - (p.lot.toNat + 1)) * (tkN (lotN l j) * seg l (j + 1) (l.length - (j + 1))) := by
      have e1 : l.length - (p.lot.toNat + 1) = (j - (p.lot.toNat + 1) + 1) + (l.length - (j + 1)) := by omega
      rw [e1, seg_add, seg, show p.lot.toNat + 1 + (j - (p.lot.toNat + 1)) = j by omega, show p.lot.toNat + 1 + (j - (p.lot.toNat + 1) + 1) = j + 1 by omega, Nat.mul_assoc]
    unfold numC termN
    rw [e]
    ac_rfl
  rw [sumN_congr h1, sumN_mul]
  have h2 := num_any v hj hjo
  rw [lotN_at hj] at *
  rw [← h2]
  unfold numC
  ac_rfl
theorem used_sum {o : Nat} (ho : isRec l o = true) : sumR (fun i => numC l o i * usedX l i) l.length = sumR (fun j => if isRec l j = true then 0 else numC l o j * tkN (lotN l j)) l.length := by
  have e1 : sumR (fun i => numC l o i * usedX l i) l.length = sumR (fun i => sumR (fun j => tkX i (lotN l j).parts * numC l o i) l.length) l.length :=
    sumR_congr fun i _ => by unfold usedX; rw [sumR_mul, Nat.mul_comm]
  rw [e1, sumR_swap]
  refine sumR_congr fun j hj => ?_
  have e2 : sumR (fun i => tkX i (lotN l j).parts * numC l o i) l.length = sumN (fun p => numC l o p.lot.toNat * p.mass.toNat) (lotN l j).parts := by
    have e3 : sumR (fun i => tkX i (lotN l j).parts * numC l o i) l.length = sumR (fun i => sumN (fun p => (if p.lot.toNat = i then p.mass.toNat else 0) * numC l o i) (lotN l j).parts) l.length :=
      sumR_congr fun i _ => by unfold tkX; rw [sumN_mul]
    rw [e3, sumR_sumN]
    refine sumN_congr fun p hp => ?_
    rw [lotN_at hj] at hp
    have he := v.earlier hj p hp
    rw [sumR_single (i := p.lot.toNat) (by omega) fun k _ hk => by rw [if_neg (fun h => hk h.symm), Nat.zero_mul], if_pos rfl, Nat.mul_comm]
  rw [e2]
  by_cases hr : isRec l j = true
  · rw [if_pos hr]
    have : (lotN l j).parts = [] := by unfold isRec at hr; simpa using hr
    rw [this]; rfl
  · rw [if_neg hr]
    exact numC_made v hj (fun h => by subst h; exact hr ho) (by simpa using hr)
theorem had_sum {o : Nat} (hol : o < l.length) (ho : isRec l o = true) : sumR (fun i => numC l o i * hadX l i) l.length = seg l 0 l.length * (lotN l o).mass.toNat + sumR (fun j => if isRec l j = true then 0 else numC l o j * tkN (lotN l j)) l.length := by
  have e1 : sumR (fun i => numC l o i * hadX l i) l.length = sumR (fun i => (if isRec l i = true then numC l o i * (lotN l i).mass.toNat else 0) + (if isRec l i = true then 0 else numC l o i * tkN (lotN l i))) l.length :=
    sumR_congr fun i _ => by
      unfold hadX
      by_cases h : isRec l i = true
      · rw [if_pos h, if_pos h, if_pos h, Nat.add_zero]
      · rw [if_neg h, if_neg h, if_neg h, Nat.zero_add]
  rw [e1, sumR_add]
  congr 1
  rw [sumR_single hol fun j hj hne => ?_]
  · rw [if_pos ho]
    unfold numC
    rw [num_self]
    have := seg_add l 0 (o + 1) (l.length - (o + 1))
    rw [Nat.zero_add, show o + 1 + (l.length - (o + 1)) = l.length by omega] at this
    rw [← this]
  · by_cases h : isRec l j = true
    · rw [if_pos h]
      have hp : l[j].parts = [] := by unfold isRec at h; rw [lotN_at hj] at h; simpa using h
      unfold numC
      rw [num_any v hj hne, hp]
      simp [sumN]
    · rw [if_neg h]
theorem found_sum {o : Nat} (hol : o < l.length) (ho : isRec l o = true) (M : Nat → Nat) (hM : ∀ i, i < l.length → M i + usedX l i = hadX l i) : sumR (fun i => numC l o i * M i) l.length = seg l 0 l.length * (lotN l o).mass.toNat := by
  have e1 : sumR (fun i => numC l o i * hadX l i) l.length = sumR (fun i => numC l o i * M i) l.length + sumR (fun i => numC l o i * usedX l i) l.length := by
    rw [← sumR_add]
    exact sumR_congr fun i hi => by rw [← hM i hi, Nat.mul_add]
  rw [had_sum v hol ho, used_sum v ho] at e1
  omega
end
end Go.AM.F

