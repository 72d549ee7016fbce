/-
The masses balance; what is left and lost of a lot is what it had less what others take.
-/
import Derived.Test.YteocppddjlglbaaFSumP
import Derived.Test.YteocppddjlglbaaFAudit
set_option linter.unusedVariables false
set_option linter.unusedSimpArgs false
set_option maxRecDepth 20000

namespace Go.AM.F

theorem take_snoc {l : List Lot} {k : Nat} (h : k < l.length) : l.take (k + 1) = l.take k ++ [l[k]] := by
  rw [List.take_add_one, List.getElem?_eq_getElem h]; rfl
theorem lotAt_nat {l : List Lot} {i : Nat} (h : i < l.length) : lotAt l (i : Int) = l[i] := by
  unfold lotAt
  rw [Int.toNat_natCast, List.getD_eq_getElem?_getD, List.getElem?_eq_getElem h]; rfl
theorem sumI_congr {f g : Nat → Int} : ∀ {n}, (∀ i, i < n → f i = g i) → sumI n f = sumI n g
  | 0, _ => rfl
  | n + 1, h => by simp only [sumI]; rw [sumI_congr fun i hi => h i (by omega), h n (by omega)]
theorem sumI_add (f g : Nat → Int) : ∀ n, sumI n (fun i => f i + g i) = sumI n f + sumI n g
  | 0 => rfl
  | n + 1 => by simp only [sumI, sumI_add f g n]; omega
theorem sumI_zero : ∀ n, sumI n (fun _ => 0) = 0
  | 0 => rfl
  | n + 1 => by simp only [sumI, sumI_zero n]; rfl
theorem sumI_one (m : Int) (k : Nat) : ∀ {n}, k < n → sumI n (fun i => if (k : Int) = (i : Int) then m else 0) = m
  | 0, h => by omega
  | n + 1, h => by
    simp only [sumI]
    by_cases hk : k = n
    · subst hk
      rw [if_pos rfl]
      have : sumI k (fun i => if (k : Int) = (i : Int) then m else 0) = sumI k (fun _ => 0) := sumI_congr fun i hi => by rw [if_neg (by omega)]
      rw [this, sumI_zero]; omega
    · rw [sumI_one m k (by omega), if_neg (by omega)]; omega
theorem tkP_sum {n : Nat} : ∀ {ps : List Part}, (∀ p ∈ ps, 0 ≤ p.lot ∧ p.lot < n) → sumI n (fun i => tkP i ps) = sumP ps
  | [], _ => by simp only [tkP, sumP]; exact sumI_zero n
  | p :: r, h => by
    have h1 := h p (List.mem_cons_self ..)
    simp only [tkP, sumP]
    rw [sumI_add, tkP_sum fun q hq => h q (List.mem_cons_of_mem _ hq)]
    obtain ⟨k, hk⟩ : ∃ k : Nat, p.lot = k := ⟨p.lot.toNat, by omega⟩
    rw [hk, sumI_one _ k (by omega)]
theorem sumTk_sum {n : Nat} : ∀ {q : List Lot}, (∀ x ∈ q, ∀ p ∈ x.parts, 0 ≤ p.lot ∧ p.lot < n) → sumI n (fun i => sumTk i q) = sumL (fun x => sumP x.parts) q
  | [], _ => by simp only [sumTk, sumL]; exact sumI_zero n
  | x :: r, h => by
    simp only [sumTk, sumL]
    rw [sumI_add, tkP_sum (h x (List.mem_cons_self ..)), sumTk_sum fun y hy => h y (List.mem_cons_of_mem _ hy)]
theorem mass_all (l : List Lot) : ∀ k, k ≤ l.length → sumI k (fun i => (lotAt l (i : Int)).mass) = sumL (fun x => x.mass) (l.take k)
  | 0, _ => by simp [sumI, sumL]
  | k + 1, h => by
    rw [take_snoc (by omega), sumL_app, sumI, mass_all l k (by omega), lotAt_nat (by omega)]
    simp [sumL]
theorem lots_balance : ∀ l : List Lot, sumL recF l + sumL (fun x => pos0 (-lostM x)) l + sumL (fun x => sumP x.parts) l = sumL (fun x => x.mass) l + sumL (fun x => pos0 (lostM x)) l
  | [] => rfl
  | x :: r => by
    have ih := lots_balance r
    simp only [sumL]
    have : recF x + pos0 (-lostM x) + sumP x.parts = x.mass + pos0 (lostM x) := by
      unfold recF lostM pos0
      by_cases h : x.parts = []
      · rw [if_pos h, if_pos h, h]; simp [sumP]
      · rw [if_neg h, if_neg h]; omega
    omega
theorem pos0_nonneg (z : Int) : 0 ≤ pos0 z := by unfold pos0; omega
theorem air_none : ∀ {l : List Lot}, ¬ 0 < sumL (fun x => pos0 (-lostM x)) l → ∀ x ∈ l, 0 ≤ lostM x
  | [], _, x, hx => by cases hx
  | y :: r, h, x, hx => by
    simp only [sumL] at h
    have h1 := pos0_nonneg (-lostM y)
    have h2 : ∀ q : List Lot, 0 ≤ sumL (fun x => pos0 (-lostM x)) q := by
      intro q
      induction q with
      | nil => exact Int.le_refl _
      | cons a q ih => simp only [sumL]; have := pos0_nonneg (-lostM a); omega
    have h3 := h2 r
    rcases List.mem_cons.1 hx with rfl | hx
    · have : pos0 (-lostM x) = 0 := by omega
      unfold pos0 at this; omega
    · exact air_none (by omega) x hx
section
variable {l : List Lot} (v : Valid l)
include v
theorem audit_balance : sumL recF l + sumL (fun x => pos0 (-lostM x)) l = sumI l.length (leftF l) + sumL (fun x => pos0 (lostM x)) l := by
  have h1 := lots_balance l
  have h2 : sumI l.length (fun i => leftF l i + sumTk i l) = sumI l.length (fun i => (lotAt l (i : Int)).mass) := sumI_congr fun i _ => by unfold leftF; omega
  rw [sumI_add, mass_all l l.length (Nat.le_refl _), List.take_length, sumTk_sum fun x hx p hp => ?_] at h2
  · omega
  · obtain ⟨i, hi, rfl⟩ := List.mem_iff_getElem.1 hx
    have := v.earlier hi p hp
    omega
theorem tkX_eq {j : Nat} (hj : j < l.length) (i : Nat) : ((tkX i l[j].parts : Nat) : Int) = tkP i l[j].parts := by
  have hp := v.parts hj
  have he := v.earlier hj
  have : ∀ ps : List Part, (∀ p ∈ ps, 0 ≤ p.lot ∧ 1 ≤ p.mass) → ((tkX i ps : Nat) : Int) = tkP i ps := by
    intro ps
    induction ps with
    | nil => intro _; rfl
    | cons p r ih =>
      intro h
      have h1 := h p (List.mem_cons_self ..)
      have h2 := ih fun q hq => h q (List.mem_cons_of_mem _ hq)
      unfold tkX at h2 ⊢
      simp only [sumN, tkP]
      by_cases hpi : p.lot = i
      · rw [if_pos hpi, if_pos (by omega)]; omega
      · rw [if_neg hpi, if_neg (by omega)]; omega
  exact this _ fun p hp' => ⟨(he p hp').1, (hp.2 p hp').1⟩
theorem used_eq (i : Nat) : ((usedX l i : Nat) : Int) = sumTk i l := by
  have : ∀ k, k ≤ l.length → ((sumR (fun j => tkX i (lotN l j).parts) k : Nat) : Int) = sumTk i (l.take k) := by
    intro k
    induction k with
    | zero => intro _; simp [sumR, sumTk]
    | succ k ih =>
      intro hk
      have h1 := ih (by omega)
      have h2 := tkX_eq v (show k < l.length by omega) i
      rw [take_snoc (by omega), sumTk_app, sumR, lotN_at (by omega)]
      simp only [sumTk]
      omega
  have h := this l.length (Nat.le_refl _)
  rw [List.take_length] at h
  exact h
theorem had_eq {i : Nat} (hi : i < l.length) (hlost : 0 ≤ lostM l[i]) : (leftF l i + lostM l[i]).toNat + usedX l i = hadX l i := by
  have h1 := used_eq v i
  have h2 := v.left i hi
  have h3 := v.mass hi
  have h4 := sumP_le l[i].parts (v.parts hi).2
  have h5 : (lotAt l (i : Int)).mass = l[i].mass := by rw [lotAt_nat hi]
  unfold hadX isRec
  unfold leftF at h2 ⊢
  rw [lotN_at hi]
  unfold lostM at hlost ⊢
  by_cases h : l[i].parts = []
  · rw [if_pos h, if_pos (by simp [h])]
    omega
  · rw [if_neg h] at hlost ⊢
    rw [if_neg (by simp [h])]
    unfold tkN
    rw [if_neg h]
    omega
end
end Go.AM.F

