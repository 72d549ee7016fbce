/-
Lots: what the program computes of them, as plain functions.
-/
import Derived.Test.YteocppddjlglbaaAmP
set_option linter.unusedVariables false
set_option linter.unusedSimpArgs false
set_option maxRecDepth 20000

namespace Go.AM.F

structure Part where
  lot : Int
  mass : Int
structure Lot where
  kind : Int
  mass : Int
  parts : List Part

def sumP : List Part → Int
  | [] => 0
  | p :: r => p.mass + sumP r
theorem sumP_app : ∀ a b, sumP (a ++ b) = sumP a + sumP b
  | [], b => by simp [sumP]
  | p :: a, b => by simp only [List.cons_append, sumP, sumP_app a b]; omega

def PartsOk (ps : List Part) : Prop := ps.length ≤ 6 ∧ ∀ p ∈ ps, 1 ≤ p.mass ∧ p.mass ≤ 100000
theorem sumP_le : ∀ ps : List Part, (∀ p ∈ ps, 1 ≤ p.mass ∧ p.mass ≤ 100000) → (ps.length : Int) ≤ sumP ps ∧ sumP ps ≤ 100000 * ps.length
  | [], _ => by simp [sumP]
  | p :: r, h => by
    have h1 := h p (List.mem_cons_self ..)
    have h2 := sumP_le r fun q hq => h q (List.mem_cons_of_mem _ hq)
    simp only [sumP, List.length_cons]
    omega

def badPart (i : Nat) (pre : List Part) (p : Part) : Bool :=
  decide (p.lot < 0) || decide ((i : Int) ≤ p.lot) || decide (p.mass < 1) || decide (100000 < p.mass) || pre.any fun q => q.lot == p.lot
def badIn (i : Nat) : List Part → List Part → Bool
  | _, [] => false
  | pre, p :: r => badPart i pre p || badIn i (pre ++ [p]) r
def partsE (i : Nat) (ps : List Part) : Int := if 6 < ps.length then 4 else if badIn i [] ps = true then 1 else 0

theorem badIn_app (i : Nat) : ∀ (a b pre : List Part), badIn i pre (a ++ b) = (badIn i pre a || badIn i (pre ++ a) b)
  | [], b, pre => by simp [badIn]
  | p :: a, b, pre => by
    simp only [List.cons_append, badIn, badIn_app i a b]
    rw [List.append_assoc, List.singleton_append, Bool.or_assoc]

def lot0 : Lot := ⟨0, 0, []⟩
def lotAt (l : List Lot) (i : Int) : Lot := l.getD i.toNat lot0
def oilIn (l : List Lot) (ps : List Part) : Bool := ps.any fun p => (lotAt l p.lot).kind == 0
def lotE (l : List Lot) (i : Nat) (x : Lot) : Int :=
  if x.kind < 0 ∨ 8 ≤ x.kind ∨ x.mass < 1 ∨ 100000 < x.mass then 1
  else if partsE i x.parts ≠ 0 then partsE i x.parts
  else if x.parts = [] then (if x.kind = 5 ∨ x.kind = 6 ∨ x.kind = 7 then 9 else 0)
  else if sumP x.parts < x.mass ∧ (x.kind ≠ 5 ∨ oilIn l x.parts = false) then 9 else 0
def lotsE (l : List Lot) : Nat → List Lot → Int
  | _, [] => 0
  | i, x :: r => if lotE l i x ≠ 0 then lotE l i x else lotsE l (i + 1) r

def tkP (i : Nat) : List Part → Int
  | [] => 0
  | p :: r => (if p.lot = i then p.mass else 0) + tkP i r
theorem tkP_app (i : Nat) : ∀ a b, tkP i (a ++ b) = tkP i a + tkP i b
  | [], b => by simp [tkP]
  | p :: a, b => by simp only [List.cons_append, tkP, tkP_app i a b]; omega
def sumTk (i : Nat) : List Lot → Int
  | [] => 0
  | x :: r => tkP i x.parts + sumTk i r
theorem sumTk_app (i : Nat) : ∀ a b, sumTk i (a ++ b) = sumTk i a + sumTk i b
  | [], b => by simp [sumTk]
  | p :: a, b => by simp only [List.cons_append, sumTk, sumTk_app i a b]; omega
def leftF (l : List Lot) (i : Nat) : Int := (lotAt l i).mass - sumTk i l
def validE (l : List Lot) : Int := if 24 < l.length then 4 else if lotsE l 0 l ≠ 0 then lotsE l 0 l else if ((List.range l.length).any fun i => decide (leftF l i < 0)) = true then 6 else 0

def Earlier (i : Nat) (x : Lot) : Prop := ∀ p ∈ x.parts, 0 ≤ p.lot ∧ p.lot < i
theorem badIn_iff {i : Nat} : ∀ {ps pre : List Part}, badIn i pre ps = false → ∀ p ∈ ps, (0 ≤ p.lot ∧ p.lot < i) ∧ 1 ≤ p.mass ∧ p.mass ≤ 100000
  | [], _, _, p, hp => by cases hp
  | q :: r, pre, h, p, hp => by
    simp only [badIn, Bool.or_eq_false_iff] at h
    rcases List.mem_cons.1 hp with rfl | hp
    · have h1 := h.1
      simp only [badPart, Bool.or_eq_false_iff, decide_eq_false_iff_not] at h1
      omega
    · exact badIn_iff h.2 p hp
theorem partsE_ok {i : Nat} {ps : List Part} (h : partsE i ps = 0) : PartsOk ps ∧ ∀ p ∈ ps, 0 ≤ p.lot ∧ p.lot < i := by
  unfold partsE at h
  split at h
  · cases h
  · split at h
    · cases h
    · rename_i h1 h2
      have h3 := badIn_iff (by simpa using h2)
      exact ⟨⟨by omega, fun p hp => (h3 p hp).2⟩, fun p hp => (h3 p hp).1⟩

theorem tkP_zero {i : Nat} : ∀ {ps : List Part}, (∀ p ∈ ps, p.lot < i) → tkP i ps = 0
  | [], _ => rfl
  | p :: r, h => by
    have h1 := h p (List.mem_cons_self ..)
    simp only [tkP, tkP_zero fun q hq => h q (List.mem_cons_of_mem _ hq)]
    rw [if_neg (by omega)]; omega
theorem tkP_le (i : Nat) : ∀ {ps : List Part}, (∀ p ∈ ps, 1 ≤ p.mass ∧ p.mass ≤ 100000) → 0 ≤ tkP i ps ∧ tkP i ps ≤ 100000 * ps.length
  | [], _ => by simp [tkP]
  | p :: r, h => by
    have h1 := h p (List.mem_cons_self ..)
    have h2 := tkP_le i (ps := r) fun q hq => h q (List.mem_cons_of_mem _ hq)
    simp only [tkP, List.length_cons]
    split <;> omega
theorem sumTk_le (i : Nat) : ∀ {l : List Lot}, (∀ x ∈ l, PartsOk x.parts) → 0 ≤ sumTk i l ∧ sumTk i l ≤ 600000 * l.length
  | [], _ => by simp [sumTk]
  | x :: r, h => by
    obtain ⟨h1, h2⟩ := h x (List.mem_cons_self ..)
    have h3 := tkP_le i h2
    have h4 := sumTk_le i (l := r) fun q hq => h q (List.mem_cons_of_mem _ hq)
    simp only [sumTk, List.length_cons]
    omega

structure Valid (l : List Lot) : Prop where
  len : l.length ≤ 24
  lots : ∀ i, (h : i < l.length) → lotE l i l[i] = 0
  left : ∀ i, i < l.length → 0 ≤ leftF l i
theorem lotsE_zero {l : List Lot} : ∀ {r : List Lot} {i : Nat}, lotsE l i r = 0 ↔ ∀ j, (h : j < r.length) → lotE l (i + j) r[j] = 0
  | [], i => by simp [lotsE]
  | x :: r, i => by
    simp only [lotsE]
    split
    · rename_i h
      constructor
      · intro h2; exact absurd h2 h
      · intro h2; exact absurd (h2 0 (by simp)) h
    · rename_i h
      rw [lotsE_zero (r := r) (i := i + 1)]
      constructor
      · intro h2 j hj
        cases j with
        | zero => simpa using h
        | succ j => simpa [Nat.add_assoc, Nat.add_comm 1 j] using h2 j (by simpa using hj)
      · intro h2 j hj
        have := h2 (j + 1) (by simpa using hj)
        simpa [Nat.add_assoc, Nat.add_comm 1 j] using this
theorem valid_of {l : List Lot} (h : validE l = 0) : Valid l := by
  unfold validE at h
  split at h
  · cases h
  · split at h
    · rename_i h1; exact absurd h h1
    · split at h
      · cases h
      · rename_i h1 h2 h3
        refine ⟨by omega, fun i hi => ?_, fun i hi => ?_⟩
        · have := lotsE_zero.1 (Decidable.not_not.1 h2) i hi
          simpa using this
        · simp only [List.any_eq_true, List.mem_range, decide_eq_true_eq, not_exists, not_and] at h3
          have := h3 i hi
          omega
theorem lotE_parts {l : List Lot} {i : Nat} {x : Lot} (h : lotE l i x = 0) : partsE i x.parts = 0 ∧ (0 ≤ x.kind ∧ x.kind < 8) ∧ 1 ≤ x.mass ∧ x.mass ≤ 100000 := by
  unfold lotE at h
  split at h
  · cases h
  · split at h
    · rename_i h1; exact absurd h h1
    · rename_i h1 h2
      exact ⟨Decidable.not_not.1 h2, by omega, by omega⟩
section
variable {l : List Lot} (v : Valid l)
include v
theorem Valid.parts {i : Nat} (hi : i < l.length) : PartsOk l[i].parts := (partsE_ok (lotE_parts (v.lots i hi)).1).1
theorem Valid.earlier {i : Nat} (hi : i < l.length) : Earlier i l[i] := (partsE_ok (lotE_parts (v.lots i hi)).1).2
theorem Valid.mass {i : Nat} (hi : i < l.length) : 1 ≤ l[i].mass ∧ l[i].mass ≤ 100000 := (lotE_parts (v.lots i hi)).2.2
end
structure Sane (l : List Lot) : Prop where
  len : l.length ≤ 24
  lots : ∀ i, (h : i < l.length) → lotE l i l[i] = 0
end Go.AM.F

