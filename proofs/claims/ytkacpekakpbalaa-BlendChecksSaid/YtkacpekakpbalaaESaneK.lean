/-
Calls that the kernel has run are facts of the machine's outside.
-/
import Derived.Test.YtkacpekakpbalaaEBase
import Derived.Test.YtkacpekakpbalaaAmR
set_option linter.unusedSimpArgs false

namespace Go.AM.E
open Go Go.AM Go.RowKit Go.Proofs

mutual
def eqV : V → V → Bool
  | .int k n, .int k' n' => decide (k = k') && decide (n = n')
  | .bool a, .bool b => a == b
  | .agg a, .agg b => eqVL a b
  | .tup a, .tup b => eqVL a b
  | .sl t a, .sl u b => (t == u) && eqVL a b
  | .clo f a b, .clo g c d => f == g && eqVL a c && eqVL b d
  | _, _ => false
def eqVL : List V → List V → Bool
  | [], [] => true
  | a :: l, b :: r => eqV a b && eqVL l r
  | _, _ => false
end
mutual
theorem eqV_eq : ∀ {a b : V}, eqV a b = true → a = b
  | .int k n, .int k' n', h => by
    simp only [eqV, Bool.and_eq_true, decide_eq_true_eq] at h
    rw [h.1, h.2]
  | .bool a, .bool b, h => by
    simp only [eqV, beq_iff_eq] at h
    rw [h]
  | .agg a, .agg b, h => by
    simp only [eqV] at h
    rw [eqVL_eq h]
  | .tup a, .tup b, h => by
    simp only [eqV] at h
    rw [eqVL_eq h]
  | .sl t a, .sl u b, h => by
    simp only [eqV, Bool.and_eq_true, beq_iff_eq] at h
    rw [h.1, eqVL_eq h.2]
  | .clo f a b, .clo g c d, h => by
    simp only [eqV, Bool.and_eq_true, beq_iff_eq] at h
    rw [h.1.1, eqVL_eq h.1.2, eqVL_eq h.2]
theorem eqVL_eq : ∀ {a b : List V}, eqVL a b = true → a = b
  | [], [], _ => rfl
  | a :: l, b :: r, h => by
    simp only [eqVL, Bool.and_eq_true] at h
    rw [eqV_eq h.1, eqVL_eq h.2]
end

structure Known where
  f : Nat
  vs : List V
  r : V
def kn : List Known → Nat → List V → Option V
  | [], _, _ => none
  | p :: K, g, bs => if p.f == g && eqVL p.vs bs then some p.r else kn K g bs
/-- The machine's outside with these calls. -/
def XK (X : Ext) (K : List Known) : Ext := { call := fun g vs => match X.call g vs with | some r => some r | none => kn K g vs, inl := X.inl }
theorem kn_mem : ∀ {K : List Known} {g : Nat} {vs : List V} {r : V}, kn K g vs = some r → ∃ p ∈ K, p.f = g ∧ p.vs = vs ∧ p.r = r
  | p :: K, g, vs, r, h => by
    unfold kn at h
    split at h
    · rename_i hc
      simp only [Bool.and_eq_true, beq_iff_eq] at hc
      cases h
      exact ⟨p, by simp, hc.1, eqVL_eq hc.2, rfl⟩
    · obtain ⟨q, hq, h2⟩ := kn_mem h
      exact ⟨q, by simp [hq], h2⟩
def Right (K : List Known) : Prop := ∀ p ∈ K, CallOk Try.prog p.f p.vs p.r
theorem XK_ok {X : Ext} (hX : ExtOk Try.prog X) {K : List Known} (h : Right K) : ExtOk Try.prog (XK X K) := ⟨(fun g vs r hr => by
  simp only [XK] at hr
  cases hc : X.call g vs with
  | some r' =>
    rw [hc] at hr
    cases hr
    exact hX.call _ _ _ hc
  | none =>
    rw [hc] at hr
    obtain ⟨p, hp, h1, h2, h3⟩ := kn_mem hr
    subst h1 h2 h3
    exact h p hp), hX.inl⟩
def eqO (a : Option V) (b : V) : Bool := match a with | some a => eqV a b | none => false
/-- A call, run by the kernel. -/
def Runs (X : Ext) (p : Known) : Prop := eqO ((orc E X 60).call p.f p.vs) p.r = true
theorem runs_right {X : Ext} (hX : ExtOk Try.prog X) {p : Known} (h : Runs X p) : CallOk Try.prog p.f p.vs p.r := by
  unfold Runs eqO at h
  split at h
  · rename_i a ha
    rw [← eqV_eq h]
    exact Orc.callOk E_ok hX mixed ((orcω_le 60).call _ _ _ ha)
  · cases h
def AllRun (X : Ext) (K : List Known) : Prop := ∀ p ∈ K, Runs X p
theorem allRun_right {X : Ext} (hX : ExtOk Try.prog X) {K : List Known} (h : AllRun X K) : Right K := fun p hp => runs_right hX (h p hp)
theorem allRun_nil {X : Ext} : AllRun X [] := fun _ h => by cases h
theorem allRun_cons {X : Ext} {p : Known} {K : List Known} (h : Runs X p) (h2 : AllRun X K) : AllRun X (p :: K) := fun q hq => by
  rcases List.mem_cons.1 hq with e | hq
  · rw [e]; exact h
  · exact h2 q hq
theorem right_app {K L : List Known} (h : Right K) (h2 : Right L) : Right (K ++ L) := fun q hq => by
  rcases List.mem_append.1 hq with hq | hq
  · exact h q hq
  · exact h2 q hq
end Go.AM.E
