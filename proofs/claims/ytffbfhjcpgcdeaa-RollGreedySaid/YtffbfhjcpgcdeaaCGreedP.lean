/-
Greedy cuttings (plain).
-/
import Derived.Test.YtffbfhjcpgcdeaaCTopP
import Derived.Test.YtffbfhjcpgcdeaaAmSort
set_option linter.unusedVariables false
set_option linter.unusedSimpArgs false
set_option maxRecDepth 20000

namespace Go.AM.C
open Go Go.Proofs

def pickG (ms : List Mk) (l : List Art) (x : Int) : Nat → Int
  | 0 => -1
  | k + 1 => if fitsM ms l x k = true ∧ (pickG ms l x k < 0 ∨ priceAt l (pickG ms l x k) < priceAt l k) then (k : Int) else pickG ms l x k

theorem pickG_in (ms : List Mk) (l : List Art) (x : Int) : ∀ k : Nat, -1 ≤ pickG ms l x k ∧ pickG ms l x k < k
  | 0 => by unfold pickG; omega
  | k + 1 => by
    have := pickG_in ms l x k
    unfold pickG
    split <;> omega

theorem pickG_fits (ms : List Mk) (l : List Art) (x : Int) : ∀ k : Nat, 0 ≤ pickG ms l x k → fitsM ms l x (pickG ms l x k) = true
  | 0, h => by unfold pickG at h; omega
  | k + 1, h => by
    unfold pickG at h ⊢
    split
    · rename_i hc; exact hc.1
    · rename_i hc
      rw [if_neg hc] at h
      exact pickG_fits ms l x k h

theorem pickG_most (ms : List Mk) (l : List Art) (x : Int) : ∀ (k : Nat) (j : Nat), j < k → fitsM ms l x j = true → 0 ≤ pickG ms l x k ∧ (priceAt l j < priceAt l (pickG ms l x k) ∨ (priceAt l j = priceAt l (pickG ms l x k) ∧ pickG ms l x k ≤ j))
  | 0, j, hj, _ => by omega
  | k + 1, j, hj, hf => by
    have hi := pickG_in ms l x k
    by_cases hjk : j < k
    · obtain ⟨h0, h1⟩ := pickG_most ms l x k j hjk hf
      unfold pickG
      split
      · rename_i hc
        refine ⟨by omega, ?_⟩
        rcases hc.2 with h2 | h2
        · omega
        · left; rcases h1 with h1 | h1 <;> omega
      · exact ⟨h0, h1⟩
    · have : j = k := by omega
      subst this
      unfold pickG
      split
      · exact ⟨by omega, .inr ⟨rfl, by omega⟩⟩
      · rename_i hc
        have hc' : ¬ (pickG ms l x j < 0 ∨ priceAt l (pickG ms l x j) < priceAt l j) := fun h => hc ⟨hf, h⟩
        have h0 : 0 ≤ pickG ms l x j := by omega
        refine ⟨h0, ?_⟩
        have : ¬ priceAt l (pickG ms l x j) < priceAt l j := fun h => hc' (.inr h)
        by_cases he : priceAt l j = priceAt l (pickG ms l x j)
        · exact .inr ⟨he, by omega⟩
        · left; omega

theorem pickG_eq {ms : List Mk} {l : List Art} {x : Int} {i : Nat} (hi : i < l.length) (hf : fitsM ms l x i = true) (h : ∀ j : Nat, j < l.length → fitsM ms l x j = true → priceAt l j < priceAt l i ∨ (priceAt l j = priceAt l i ∧ i ≤ j)) :
    pickG ms l x l.length = i := by
  obtain ⟨h0, h1⟩ := pickG_most ms l x l.length i hi hf
  have h2 := pickG_in ms l x l.length
  have h3 := pickG_fits ms l x l.length h0
  obtain ⟨b, hb⟩ : ∃ b : Nat, pickG ms l x l.length = b := ⟨(pickG ms l x l.length).toNat, by omega⟩
  rw [hb] at h1 h3 ⊢
  have h4 := h b (by omega) h3
  omega

theorem pickG_none {ms : List Mk} {l : List Art} {x : Int} (h : ∀ j : Nat, j < l.length → fitsM ms l x j = false) : pickG ms l x l.length = -1 := by
  have h2 := pickG_in ms l x l.length
  have h3 := pickG_fits ms l x l.length
  by_cases h0 : 0 ≤ pickG ms l x l.length
  · have := h3 h0
    obtain ⟨b, hb⟩ : ∃ b : Nat, pickG ms l x l.length = b := ⟨(pickG ms l x l.length).toNat, by omega⟩
    rw [hb] at this h2
    rw [h b (by omega)] at this
    cases this
  · omega

def greedyL (ms : List Mk) (l : List Art) : Nat → Nat → List (Int × Int)
  | 0, _ => []
  | n + 1, x => if x < ms.length then (if pickG ms l x l.length < 0 then greedyL ms l n (x + 1) else ((x : Int), pickG ms l x l.length) :: greedyL ms l n (x + (lenAt l (pickG ms l x l.length)).toNat)) else []
def greedyW (ms : List Mk) (l : List Art) : List (Int × Int) := greedyL ms l (ms.length + 1) 0

theorem greedy_check {ms : List Mk} {l : List Art} (hl : validA l = 0) : ∀ (n x : Nat) (e : Int), e ≤ x → checkL ms l e (greedyL ms l n x) = 0
  | 0, _, _, _ => rfl
  | n + 1, x, e, he => by
    unfold greedyL
    split
    · split
      · exact greedy_check hl n (x + 1) e (by omega)
      · rename_i h0
        have hf := pickG_fits ms l x l.length (by omega)
        obtain ⟨a, f1, f2, f3, f4, f5, f6, f7, _⟩ := fits_in hf
        have al := ((validA_len hl).2 a (List.mem_of_getElem? f1)).1
        rw [checkL, if_pos hf, if_neg (by dsimp only; omega)]
        exact greedy_check hl n _ _ (by dsimp only; omega)
    · rfl

theorem greedy_len {ms : List Mk} {l : List Art} : ∀ (n x : Nat), (greedyL ms l n x).length ≤ n
  | 0, _ => Nat.le_refl _
  | n + 1, x => by
    unfold greedyL
    split
    · split
      · exact Nat.le_succ_of_le (greedy_len n _)
      · rw [List.length_cons]; have := greedy_len (ms := ms) (l := l) n (x + (lenAt l (pickG ms l x l.length)).toNat); omega
    · simp

theorem greedy_fuel {ms : List Mk} {l : List Art} (hl : validA l = 0) : ∀ (n m x : Nat), ms.length < x + n → ms.length < x + m → greedyL ms l n x = greedyL ms l m x
  | 0, m, x, hn, hm => by
    cases m with
    | zero => rfl
    | succ m => rw [greedyL, greedyL, if_neg (by omega)]
  | n + 1, 0, x, hn, hm => by rw [greedyL, greedyL, if_neg (by omega)]
  | n + 1, m + 1, x, hn, hm => by
    rw [greedyL, greedyL]
    split
    · split
      · exact greedy_fuel hl n m (x + 1) (by omega) (by omega)
      · rename_i h0
        have hf := pickG_fits ms l x l.length (by omega)
        obtain ⟨a, f1, f2, f3, f4, f5, f6, f7, _⟩ := fits_in hf
        have al := ((validA_len hl).2 a (List.mem_of_getElem? f1)).1
        rw [greedy_fuel hl n m (x + (lenAt l (pickG ms l x l.length)).toNat) (by omega) (by omega)]
    · rfl

theorem greedy_step {ms : List Mk} {l : List Art} (hl : validA l = 0) {x : Nat} (hx : x < ms.length) :
    greedyL ms l (ms.length + 1) x = if pickG ms l x l.length < 0 then greedyL ms l (ms.length + 1) (x + 1) else ((x : Int), pickG ms l x l.length) :: greedyL ms l (ms.length + 1) (x + (lenAt l (pickG ms l x l.length)).toNat) := by
  rw [greedyL, if_pos hx]
  split
  · exact greedy_fuel hl _ _ _ (by omega) (by omega)
  · rename_i h0
    have hf := pickG_fits ms l x l.length (by omega)
    obtain ⟨a, f1, f2, f3, f4, f5, f6, f7, _⟩ := fits_in hf
    have al := ((validA_len hl).2 a (List.mem_of_getElem? f1)).1
    rw [greedy_fuel hl _ (ms.length + 1) _ (by omega) (by omega)]
theorem greedy_end {ms : List Mk} {l : List Art} {x : Nat} (hx : ¬ x < ms.length) : greedyL ms l (ms.length + 1) x = [] := by rw [greedyL, if_neg hx]

end Go.AM.C

