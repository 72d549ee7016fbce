/- A part of the proof: the texts ESaneK, ESaneA, ESaneB, ESaneC, one after another. No condition. -/
import Derived.Test.YtkacpekakpbalaaEBase
import Derived.Test.YtkacpekakpbalaaAmR
set_option linter.unusedVariables false
set_option linter.unusedSimpArgs false
set_option maxRecDepth 20000

section
/-
Calls that the kernel has run are facts of the machine's outside.
-/
namespace Go.AM.E
open Go Go.AM Go.RowKit Go.Proofs

mutual
def eqV : V → V → Bool
  | .int k n, .int k' n' => decide (k = k') && decide (n = n')
  | .bool a, .bool b => a == b
  | .agg a, .agg b => eqVL a b
  | .tup a, .tup b => eqVL a b
  | .sl t a, .sl u b => (t == u) && eqVL a b
  | .clo f a b, .clo g c d => f == g && eqVL a c && eqVL b d
  | _, _ => false
def eqVL : List V → List V → Bool
  | [], [] => true
  | a :: l, b :: r => eqV a b && eqVL l r
  | _, _ => false
end
mutual
theorem eqV_eq : ∀ {a b : V}, eqV a b = true → a = b
  | .int k n, .int k' n', h => by
    simp only [eqV, Bool.and_eq_true, decide_eq_true_eq] at h
    rw [h.1, h.2]
  | .bool a, .bool b, h => by
    simp only [eqV, beq_iff_eq] at h
    rw [h]
  | .agg a, .agg b, h => by
    simp only [eqV] at h
    rw [eqVL_eq h]
  | .tup a, .tup b, h => by
    simp only [eqV] at h
    rw [eqVL_eq h]
  | .sl t a, .sl u b, h => by
    simp only [eqV, Bool.and_eq_true, beq_iff_eq] at h
    rw [h.1, eqVL_eq h.2]
  | .clo f a b, .clo g c d, h => by
    simp only [eqV, Bool.and_eq_true, beq_iff_eq] at h
    rw [h.1.1, eqVL_eq h.1.2, eqVL_eq h.2]
theorem eqVL_eq : ∀ {a b : List V}, eqVL a b = true → a = b
  | [], [], _ => rfl
  | a :: l, b :: r, h => by
    simp only [eqVL, Bool.and_eq_true] at h
    rw [eqV_eq h.1, eqVL_eq h.2]
end

structure Known where
  f : Nat
  vs : List V
  r : V
def kn : List Known → Nat → List V → Option V
  | [], _, _ => none
  | p :: K, g, bs => if p.f == g && eqVL p.vs bs then some p.r else kn K g bs
def XK (X : Ext) (K : List Known) : Ext := { call := fun g vs => match X.call g vs with | some r => some r | none => kn K g vs, inl := X.inl }
theorem kn_mem : ∀ {K : List Known} {g : Nat} {vs : List V} {r : V}, kn K g vs = some r → ∃ p ∈ K, p.f = g ∧ p.vs = vs ∧ p.r = r
  | p :: K, g, vs, r, h => by
    unfold kn at h
    split at h
    · rename_i hc
      simp only [Bool.and_eq_true, beq_iff_eq] at hc
      cases h
      exact ⟨p, by simp, hc.1, eqVL_eq hc.2, rfl⟩
    · obtain ⟨q, hq, h2⟩ := kn_mem h
      exact ⟨q, by simp [hq], h2⟩
def Right (K : List Known) : Prop := ∀ p ∈ K, CallOk Try.prog p.f p.vs p.r
theorem XK_ok {X : Ext} (hX : ExtOk Try.prog X) {K : List Known} (h : Right K) : ExtOk Try.prog (XK X K) := ⟨(fun g vs r hr => by
  simp only [XK] at hr
  cases hc : X.call g vs with
  | some r' =>
    rw [hc] at hr
    cases hr
    exact hX.call _ _ _ hc
  | none =>
    rw [hc] at hr
    obtain ⟨p, hp, h1, h2, h3⟩ := kn_mem hr
    subst h1 h2 h3
    exact h p hp), hX.inl⟩
def eqO (a : Option V) (b : V) : Bool := match a with | some a => eqV a b | none => false
def Runs (X : Ext) (p : Known) : Prop := eqO ((orc E X 60).call p.f p.vs) p.r = true
theorem runs_right {X : Ext} (hX : ExtOk Try.prog X) {p : Known} (h : Runs X p) : CallOk Try.prog p.f p.vs p.r := by
  unfold Runs eqO at h
  split at h
  · rename_i a ha
    rw [← eqV_eq h]
    exact Orc.callOk E_ok hX mixed ((orcω_le 60).call _ _ _ ha)
  · cases h
def AllRun (X : Ext) (K : List Known) : Prop := ∀ p ∈ K, Runs X p
theorem allRun_right {X : Ext} (hX : ExtOk Try.prog X) {K : List Known} (h : AllRun X K) : Right K := fun p hp => runs_right hX (h p hp)
theorem allRun_nil {X : Ext} : AllRun X [] := fun _ h => by cases h
theorem allRun_cons {X : Ext} {p : Known} {K : List Known} (h : Runs X p) (h2 : AllRun X K) : AllRun X (p :: K) := fun q hq => by
  rcases List.mem_cons.1 hq with e | hq
  · rw [e]; exact h
  · exact h2 q hq
theorem right_app {K L : List Known} (h : Right K) (h2 : Right L) : Right (K ++ L) := fun q hq => by
  rcases List.mem_append.1 hq with hq | hq
  · exact h q hq
  · exact h2 q hq
end Go.AM.E
end

section
/-
Calls that the kernel has run.
-/
namespace Go.AM.E
open Go Go.AM Go.RowKit Go.Proofs

def q2 : Known := ⟨69, [.agg [.int .i64 10, .sl false [.agg [.int .i64 10, .int .i64 2, .sl true [.int .i64 4]], .agg [.int .i64 10, .int .i64 5, .sl true [.int .i64 8]]], .sl false [.int .i64 6], .sl false [.int .i64 8]], .agg [.int .i64 1, .int .i64 0, .sl false [.int .i64 0], .sl false [.int .i64 0], .sl false [.int .i64 0, .int .i64 0]]], .int .i64 0⟩
set_option maxRecDepth 100000 in
theorem r2 : Runs X0 q2 := by unfold Runs; decide +kernel
def q4 : Known := ⟨64, [.agg [.int .i64 10, .sl false [.agg [.int .i64 10, .int .i64 2, .sl true [.int .i64 4]], .agg [.int .i64 10, .int .i64 5, .sl true [.int .i64 8]]], .sl false [.int .i64 6], .sl false [.int .i64 8]], .agg [.int .i64 1, .sl false [.int .i64 0, .int .i64 0]]], .int .i64 11⟩
set_option maxRecDepth 100000 in
theorem r4 : Runs X0 q4 := by unfold Runs; decide +kernel
def q6 : Known := ⟨64, [.agg [.int .i64 10, .sl false [.agg [.int .i64 10, .int .i64 2, .sl true [.int .i64 4]], .agg [.int .i64 10, .int .i64 5, .sl true [.int .i64 8]]], .sl false [.int .i64 6], .sl false [.int .i64 8]], .agg [.int .i64 1, .sl false [.int .i64 10, .int .i64 0]]], .int .i64 9⟩
set_option maxRecDepth 100000 in
theorem r6 : Runs X0 q6 := by unfold Runs; decide +kernel
def q8 : Known := ⟨64, [.agg [.int .i64 10, .sl false [.agg [.int .i64 10, .int .i64 2, .sl true [.int .i64 4]], .agg [.int .i64 10, .int .i64 5, .sl true [.int .i64 8]]], .sl false [.int .i64 6], .sl false [.int .i64 8]], .agg [.int .i64 1, .sl false [.int .i64 0, .int .i64 10]]], .int .i64 0⟩
set_option maxRecDepth 100000 in
theorem r8 : Runs X0 q8 := by unfold Runs; decide +kernel
def q9 : Known := ⟨66, [.agg [.int .i64 10, .sl false [.agg [.int .i64 10, .int .i64 2, .sl true [.int .i64 4]], .agg [.int .i64 10, .int .i64 5, .sl true [.int .i64 8]]], .sl false [.int .i64 6], .sl false [.int .i64 8]], .agg [.int .i64 1, .sl false [.int .i64 0, .int .i64 10]]], .int .i64 50⟩
set_option maxRecDepth 100000 in
theorem r9 : Runs X0 q9 := by unfold Runs; decide +kernel
def q11 : Known := ⟨64, [.agg [.int .i64 10, .sl false [.agg [.int .i64 10, .int .i64 2, .sl true [.int .i64 4]], .agg [.int .i64 10, .int .i64 5, .sl true [.int .i64 8]]], .sl false [.int .i64 6], .sl false [.int .i64 8]], .agg [.int .i64 1, .sl false [.int .i64 10, .int .i64 10]]], .int .i64 11⟩
set_option maxRecDepth 100000 in
theorem r11 : Runs X0 q11 := by unfold Runs; decide +kernel
def q15 : Known := ⟨69, [.agg [.int .i64 10, .sl false [.agg [.int .i64 10, .int .i64 2, .sl true [.int .i64 4]], .agg [.int .i64 10, .int .i64 5, .sl true [.int .i64 8]]], .sl false [.int .i64 6], .sl false [.int .i64 8]], .agg [.int .i64 1, .int .i64 2, .sl false [.int .i64 0], .sl false [.int .i64 0], .sl false [.int .i64 0, .int .i64 0]]], .int .i64 20⟩
set_option maxRecDepth 100000 in
theorem r15 : Runs X0 q15 := by unfold Runs; decide +kernel
def q21 : Known := ⟨69, [.agg [.int .i64 10, .sl false [.agg [.int .i64 10, .int .i64 2, .sl true [.int .i64 4]], .agg [.int .i64 10, .int .i64 5, .sl true [.int .i64 8]]], .sl false [.int .i64 6], .sl false [.int .i64 8]], .agg [.int .i64 1, .int .i64 5, .sl false [.int .i64 0], .sl false [.int .i64 0], .sl false [.int .i64 3, .int .i64 0]]], .int .i64 20⟩
set_option maxRecDepth 100000 in
theorem r21 : Runs X0 q21 := by unfold Runs; decide +kernel
def q27 : Known := ⟨69, [.agg [.int .i64 10, .sl false [.agg [.int .i64 10, .int .i64 2, .sl true [.int .i64 4]], .agg [.int .i64 10, .int .i64 5, .sl true [.int .i64 8]]], .sl false [.int .i64 6], .sl false [.int .i64 8]], .agg [.int .i64 4, .int .i64 0, .sl false [.int .i64 2], .sl false [.int .i64 0], .sl false [.int .i64 0, .int .i64 0]]], .int .i64 120⟩
set_option maxRecDepth 100000 in
theorem r27 : Runs X0 q27 := by unfold Runs; decide +kernel
def q29 : Known := ⟨64, [.agg [.int .i64 10, .sl false [.agg [.int .i64 10, .int .i64 2, .sl true [.int .i64 4]], .agg [.int .i64 10, .int .i64 5, .sl true [.int .i64 8]]], .sl false [.int .i64 6], .sl false [.int .i64 8]], .agg [.int .i64 4, .sl false [.int .i64 60, .int .i64 0]]], .int .i64 6⟩
set_option maxRecDepth 100000 in
theorem r29 : Runs X0 q29 := by unfold Runs; decide +kernel
def q32 : Known := ⟨64, [.agg [.int .i64 10, .sl false [.agg [.int .i64 10, .int .i64 2, .sl true [.int .i64 4]], .agg [.int .i64 10, .int .i64 5, .sl true [.int .i64 8]]], .sl false [.int .i64 6], .sl false [.int .i64 8]], .agg [.int .i64 4, .sl false [.int .i64 80, .int .i64 0]]], .int .i64 6⟩
set_option maxRecDepth 100000 in
theorem r32 : Runs X0 q32 := by unfold Runs; decide +kernel
def q34 : Known := ⟨64, [.agg [.int .i64 10, .sl false [.agg [.int .i64 10, .int .i64 2, .sl true [.int .i64 4]], .agg [.int .i64 10, .int .i64 5, .sl true [.int .i64 8]]], .sl false [.int .i64 6], .sl false [.int .i64 8]], .agg [.int .i64 4, .sl false [.int .i64 0, .int .i64 40]]], .int .i64 0⟩
set_option maxRecDepth 100000 in
theorem r34 : Runs X0 q34 := by unfold Runs; decide +kernel
def q35 : Known := ⟨66, [.agg [.int .i64 10, .sl false [.agg [.int .i64 10, .int .i64 2, .sl true [.int .i64 4]], .agg [.int .i64 10, .int .i64 5, .sl true [.int .i64 8]]], .sl false [.int .i64 6], .sl false [.int .i64 8]], .agg [.int .i64 4, .sl false [.int .i64 0, .int .i64 40]]], .int .i64 200⟩
set_option maxRecDepth 100000 in
theorem r35 : Runs X0 q35 := by unfold Runs; decide +kernel
def q39 : Known := ⟨69, [.agg [.int .i64 10, .sl false [.agg [.int .i64 10, .int .i64 2, .sl true [.int .i64 4]], .agg [.int .i64 10, .int .i64 5, .sl true [.int .i64 8]]], .sl false [.int .i64 6], .sl false [.int .i64 8]], .agg [.int .i64 8, .int .i64 0, .sl false [.int .i64 5], .sl false [.int .i64 0], .sl false [.int .i64 4, .int .i64 0]]], .int .i64 260⟩
set_option maxRecDepth 100000 in
theorem r39 : Runs X0 q39 := by unfold Runs; decide +kernel
def q41 : Known := ⟨64, [.agg [.int .i64 10, .sl false [.agg [.int .i64 10, .int .i64 2, .sl true [.int .i64 4]], .agg [.int .i64 10, .int .i64 5, .sl true [.int .i64 8]]], .sl false [.int .i64 6], .sl false [.int .i64 8]], .agg [.int .i64 8, .sl false [.int .i64 0, .int .i64 60]]], .int .i64 11⟩
set_option maxRecDepth 100000 in
theorem r41 : Runs X0 q41 := by unfold Runs; decide +kernel
def q43 : Known := ⟨64, [.agg [.int .i64 10, .sl false [.agg [.int .i64 10, .int .i64 2, .sl true [.int .i64 4]], .agg [.int .i64 10, .int .i64 5, .sl true [.int .i64 8]]], .sl false [.int .i64 6], .sl false [.int .i64 8]], .agg [.int .i64 8, .sl false [.int .i64 80, .int .i64 20]]], .int .i64 11⟩
set_option maxRecDepth 100000 in
theorem r43 : Runs X0 q43 := by unfold Runs; decide +kernel
def q45 : Known := ⟨64, [.agg [.int .i64 10, .sl false [.agg [.int .i64 10, .int .i64 2, .sl true [.int .i64 4]], .agg [.int .i64 10, .int .i64 5, .sl true [.int .i64 8]]], .sl false [.int .i64 6], .sl false [.int .i64 8]], .agg [.int .i64 8, .sl false [.int .i64 0, .int .i64 80]]], .int .i64 0⟩
set_option maxRecDepth 100000 in
theorem r45 : Runs X0 q45 := by unfold Runs; decide +kernel
def q46 : Known := ⟨66, [.agg [.int .i64 10, .sl false [.agg [.int .i64 10, .int .i64 2, .sl true [.int .i64 4]], .agg [.int .i64 10, .int .i64 5, .sl true [.int .i64 8]]], .sl false [.int .i64 6], .sl false [.int .i64 8]], .agg [.int .i64 8, .sl false [.int .i64 0, .int .i64 80]]], .int .i64 400⟩
set_option maxRecDepth 100000 in
theorem r46 : Runs X0 q46 := by unfold Runs; decide +kernel
def q48 : Known := ⟨64, [.agg [.int .i64 10, .sl false [.agg [.int .i64 10, .int .i64 2, .sl true [.int .i64 4]], .agg [.int .i64 10, .int .i64 5, .sl true [.int .i64 8]]], .sl false [.int .i64 6], .sl false [.int .i64 8]], .agg [.int .i64 8, .sl false [.int .i64 80, .int .i64 40]]], .int .i64 11⟩
set_option maxRecDepth 100000 in
theorem r48 : Runs X0 q48 := by unfold Runs; decide +kernel
def q52 : Known := ⟨69, [.agg [.int .i64 10, .sl false [.agg [.int .i64 10, .int .i64 2, .sl true [.int .i64 4]], .agg [.int .i64 10, .int .i64 5, .sl true [.int .i64 8]]], .sl false [.int .i64 6], .sl false [.int .i64 8]], .agg [.int .i64 4, .int .i64 (-4), .sl false [.int .i64 3], .sl false [.int .i64 0], .sl false [.int .i64 0, .int .i64 0]]], .int .i64 140⟩
set_option maxRecDepth 100000 in
theorem r52 : Runs X0 q52 := by unfold Runs; decide +kernel
def q54 : Known := ⟨64, [.agg [.int .i64 10, .sl false [.agg [.int .i64 10, .int .i64 2, .sl true [.int .i64 4]], .agg [.int .i64 10, .int .i64 5, .sl true [.int .i64 8]]], .sl false [.int .i64 6], .sl false [.int .i64 8]], .agg [.int .i64 4, .sl false [.int .i64 20, .int .i64 20]]], .int .i64 0⟩
set_option maxRecDepth 100000 in
theorem r54 : Runs X0 q54 := by unfold Runs; decide +kernel
def q55 : Known := ⟨66, [.agg [.int .i64 10, .sl false [.agg [.int .i64 10, .int .i64 2, .sl true [.int .i64 4]], .agg [.int .i64 10, .int .i64 5, .sl true [.int .i64 8]]], .sl false [.int .i64 6], .sl false [.int .i64 8]], .agg [.int .i64 4, .sl false [.int .i64 20, .int .i64 20]]], .int .i64 140⟩
set_option maxRecDepth 100000 in
theorem r55 : Runs X0 q55 := by unfold Runs; decide +kernel
def q59 : Known := ⟨69, [.agg [.int .i64 10, .sl false [.agg [.int .i64 10, .int .i64 2, .sl true [.int .i64 4]], .agg [.int .i64 4, .int .i64 5, .sl true [.int .i64 8]]], .sl false [.int .i64 6], .sl false [.int .i64 8]], .agg [.int .i64 1, .int .i64 0, .sl false [.int .i64 0], .sl false [.int .i64 0], .sl false [.int .i64 0, .int .i64 0]]], .int .i64 0⟩
set_option maxRecDepth 100000 in
theorem r59 : Runs X0 q59 := by unfold Runs; decide +kernel
def q61 : Known := ⟨64, [.agg [.int .i64 10, .sl false [.agg [.int .i64 10, .int .i64 2, .sl true [.int .i64 4]], .agg [.int .i64 4, .int .i64 5, .sl true [.int .i64 8]]], .sl false [.int .i64 6], .sl false [.int .i64 8]], .agg [.int .i64 1, .sl false [.int .i64 0, .int .i64 0]]], .int .i64 11⟩
set_option maxRecDepth 100000 in
theorem r61 : Runs X0 q61 := by unfold Runs; decide +kernel
def q63 : Known := ⟨64, [.agg [.int .i64 10, .sl false [.agg [.int .i64 10, .int .i64 2, .sl true [.int .i64 4]], .agg [.int .i64 4, .int .i64 5, .sl true [.int .i64 8]]], .sl false [.int .i64 6], .sl false [.int .i64 8]], .agg [.int .i64 1, .sl false [.int .i64 10, .int .i64 0]]], .int .i64 9⟩
set_option maxRecDepth 100000 in
theorem r63 : Runs X0 q63 := by unfold Runs; decide +kernel
def q65 : Known := ⟨64, [.agg [.int .i64 10, .sl false [.agg [.int .i64 10, .int .i64 2, .sl true [.int .i64 4]], .agg [.int .i64 4, .int .i64 5, .sl true [.int .i64 8]]], .sl false [.int .i64 6], .sl false [.int .i64 8]], .agg [.int .i64 1, .sl false [.int .i64 0, .int .i64 4]]], .int .i64 11⟩
set_option maxRecDepth 100000 in
theorem r65 : Runs X0 q65 := by unfold Runs; decide +kernel
def q67 : Known := ⟨64, [.agg [.int .i64 10, .sl false [.agg [.int .i64 10, .int .i64 2, .sl true [.int .i64 4]], .agg [.int .i64 4, .int .i64 5, .sl true [.int .i64 8]]], .sl false [.int .i64 6], .sl false [.int .i64 8]], .agg [.int .i64 1, .sl false [.int .i64 10, .int .i64 4]]], .int .i64 11⟩
set_option maxRecDepth 100000 in
theorem r67 : Runs X0 q67 := by unfold Runs; decide +kernel
def q71 : Known := ⟨69, [.agg [.int .i64 10, .sl false [.agg [.int .i64 10, .int .i64 2, .sl true [.int .i64 4]], .agg [.int .i64 4, .int .i64 5, .sl true [.int .i64 8]]], .sl false [.int .i64 6], .sl false [.int .i64 8]], .agg [.int .i64 1, .int .i64 2, .sl false [.int .i64 0], .sl false [.int .i64 0], .sl false [.int .i64 0, .int .i64 0]]], .int .i64 20⟩
set_option maxRecDepth 100000 in
theorem r71 : Runs X0 q71 := by unfold Runs; decide +kernel
def q74 : Known := ⟨64, [.agg [.int .i64 10, .sl false [.agg [.int .i64 10, .int .i64 2, .sl true [.int .i64 4]], .agg [.int .i64 4, .int .i64 5, .sl true [.int .i64 8]]], .sl false [.int .i64 6], .sl false [.int .i64 8]], .agg [.int .i64 1, .sl false [.int .i64 6, .int .i64 4]]], .int .i64 9⟩
set_option maxRecDepth 100000 in
theorem r74 : Runs X0 q74 := by unfold Runs; decide +kernel
def q78 : Known := ⟨69, [.agg [.int .i64 10, .sl false [.agg [.int .i64 10, .int .i64 2, .sl true [.int .i64 4]], .agg [.int .i64 4, .int .i64 5, .sl true [.int .i64 8]]], .sl false [.int .i64 6], .sl false [.int .i64 8]], .agg [.int .i64 1, .int .i64 5, .sl false [.int .i64 0], .sl false [.int .i64 0], .sl false [.int .i64 3, .int .i64 0]]], .int .i64 20⟩
set_option maxRecDepth 100000 in
theorem r78 : Runs X0 q78 := by unfold Runs; decide +kernel
def q80 : Known := ⟨64, [.agg [.int .i64 10, .sl false [.agg [.int .i64 10, .int .i64 2, .sl true [.int .i64 4]], .agg [.int .i64 4, .int .i64 5, .sl true [.int .i64 8]]], .sl false [.int .i64 6], .sl false [.int .i64 8]], .agg [.int .i64 1, .sl false [.int .i64 0, .int .i64 10]]], .int .i64 6⟩
set_option maxRecDepth 100000 in
theorem r80 : Runs X0 q80 := by unfold Runs; decide +kernel
def q85 : Known := ⟨69, [.agg [.int .i64 10, .sl false [.agg [.int .i64 10, .int .i64 2, .sl true [.int .i64 4]], .agg [.int .i64 4, .int .i64 5, .sl true [.int .i64 8]]], .sl false [.int .i64 6], .sl false [.int .i64 8]], .agg [.int .i64 4, .int .i64 0, .sl false [.int .i64 2], .sl false [.int .i64 0], .sl false [.int .i64 0, .int .i64 0]]], .int .i64 120⟩
set_option maxRecDepth 100000 in
theorem r85 : Runs X0 q85 := by unfold Runs; decide +kernel
def q87 : Known := ⟨64, [.agg [.int .i64 10, .sl false [.agg [.int .i64 10, .int .i64 2, .sl true [.int .i64 4]], .agg [.int .i64 4, .int .i64 5, .sl true [.int .i64 8]]], .sl false [.int .i64 6], .sl false [.int .i64 8]], .agg [.int .i64 4, .sl false [.int .i64 60, .int .i64 0]]], .int .i64 6⟩
set_option maxRecDepth 100000 in
theorem r87 : Runs X0 q87 := by unfold Runs; decide +kernel
def q89 : Known := ⟨64, [.agg [.int .i64 10, .sl false [.agg [.int .i64 10, .int .i64 2, .sl true [.int .i64 4]], .agg [.int .i64 4, .int .i64 5, .sl true [.int .i64 8]]], .sl false [.int .i64 6], .sl false [.int .i64 8]], .agg [.int .i64 4, .sl false [.int .i64 28, .int .i64 16]]], .int .i64 11⟩
set_option maxRecDepth 100000 in
theorem r89 : Runs X0 q89 := by unfold Runs; decide +kernel
def q91 : Known := ⟨64, [.agg [.int .i64 10, .sl false [.agg [.int .i64 10, .int .i64 2, .sl true [.int .i64 4]], .agg [.int .i64 4, .int .i64 5, .sl true [.int .i64 8]]], .sl false [.int .i64 6], .sl false [.int .i64 8]], .agg [.int .i64 4, .sl false [.int .i64 80, .int .i64 0]]], .int .i64 6⟩
set_option maxRecDepth 100000 in
theorem r91 : Runs X0 q91 := by unfold Runs; decide +kernel
def q93 : Known := ⟨64, [.agg [.int .i64 10, .sl false [.agg [.int .i64 10, .int .i64 2, .sl true [.int .i64 4]], .agg [.int .i64 4, .int .i64 5, .sl true [.int .i64 8]]], .sl false [.int .i64 6], .sl false [.int .i64 8]], .agg [.int .i64 4, .sl false [.int .i64 48, .int .i64 16]]], .int .i64 6⟩
set_option maxRecDepth 100000 in
theorem r93 : Runs X0 q93 := by unfold Runs; decide +kernel
def q97 : Known := ⟨69, [.agg [.int .i64 10, .sl false [.agg [.int .i64 10, .int .i64 2, .sl true [.int .i64 4]], .agg [.int .i64 4, .int .i64 5, .sl true [.int .i64 8]]], .sl false [.int .i64 6], .sl false [.int .i64 8]], .agg [.int .i64 8, .int .i64 0, .sl false [.int .i64 5], .sl false [.int .i64 0], .sl false [.int .i64 4, .int .i64 0]]], .int .i64 260⟩
set_option maxRecDepth 100000 in
theorem r97 : Runs X0 q97 := by unfold Runs; decide +kernel
def q99 : Known := ⟨64, [.agg [.int .i64 10, .sl false [.agg [.int .i64 10, .int .i64 2, .sl true [.int .i64 4]], .agg [.int .i64 4, .int .i64 5, .sl true [.int .i64 8]]], .sl false [.int .i64 6], .sl false [.int .i64 8]], .agg [.int .i64 8, .sl false [.int .i64 0, .int .i64 60]]], .int .i64 6⟩
set_option maxRecDepth 100000 in
theorem r99 : Runs X0 q99 := by unfold Runs; decide +kernel
def q101 : Known := ⟨64, [.agg [.int .i64 10, .sl false [.agg [.int .i64 10, .int .i64 2, .sl true [.int .i64 4]], .agg [.int .i64 4, .int .i64 5, .sl true [.int .i64 8]]], .sl false [.int .i64 6], .sl false [.int .i64 8]], .agg [.int .i64 8, .sl false [.int .i64 80, .int .i64 20]]], .int .i64 11⟩
set_option maxRecDepth 100000 in
theorem r101 : Runs X0 q101 := by unfold Runs; decide +kernel
def q103 : Known := ⟨64, [.agg [.int .i64 10, .sl false [.agg [.int .i64 10, .int .i64 2, .sl true [.int .i64 4]], .agg [.int .i64 4, .int .i64 5, .sl true [.int .i64 8]]], .sl false [.int .i64 6], .sl false [.int .i64 8]], .agg [.int .i64 8, .sl false [.int .i64 0, .int .i64 80]]], .int .i64 6⟩
set_option maxRecDepth 100000 in
theorem r103 : Runs X0 q103 := by unfold Runs; decide +kernel
def q105 : Known := ⟨64, [.agg [.int .i64 10, .sl false [.agg [.int .i64 10, .int .i64 2, .sl true [.int .i64 4]], .agg [.int .i64 4, .int .i64 5, .sl true [.int .i64 8]]], .sl false [.int .i64 6], .sl false [.int .i64 8]], .agg [.int .i64 8, .sl false [.int .i64 80, .int .i64 40]]], .int .i64 6⟩
set_option maxRecDepth 100000 in
theorem r105 : Runs X0 q105 := by unfold Runs; decide +kernel
def q109 : Known := ⟨69, [.agg [.int .i64 10, .sl false [.agg [.int .i64 10, .int .i64 2, .sl true [.int .i64 4]], .agg [.int .i64 4, .int .i64 5, .sl true [.int .i64 8]]], .sl false [.int .i64 6], .sl false [.int .i64 8]], .agg [.int .i64 4, .int .i64 (-4), .sl false [.int .i64 3], .sl false [.int .i64 0], .sl false [.int .i64 0, .int .i64 0]]], .int .i64 140⟩
set_option maxRecDepth 100000 in
theorem r109 : Runs X0 q109 := by unfold Runs; decide +kernel
def q111 : Known := ⟨64, [.agg [.int .i64 10, .sl false [.agg [.int .i64 10, .int .i64 2, .sl true [.int .i64 4]], .agg [.int .i64 4, .int .i64 5, .sl true [.int .i64 8]]], .sl false [.int .i64 6], .sl false [.int .i64 8]], .agg [.int .i64 4, .sl false [.int .i64 20, .int .i64 20]]], .int .i64 6⟩
set_option maxRecDepth 100000 in
theorem r111 : Runs X0 q111 := by unfold Runs; decide +kernel
def q113 : Known := ⟨64, [.agg [.int .i64 10, .sl false [.agg [.int .i64 10, .int .i64 2, .sl true [.int .i64 4]], .agg [.int .i64 4, .int .i64 5, .sl true [.int .i64 8]]], .sl false [.int .i64 6], .sl false [.int .i64 8]], .agg [.int .i64 4, .sl false [.int .i64 0, .int .i64 40]]], .int .i64 6⟩
set_option maxRecDepth 100000 in
theorem r113 : Runs X0 q113 := by unfold Runs; decide +kernel
def q116 : Known := ⟨69, [.agg [.int .i64 10, .sl false [.agg [.int .i64 10, .int .i64 2, .sl true [.int .i64 4]], .agg [.int .i64 4, .int .i64 5, .sl true [.int .i64 8]]], .sl false [.int .i64 6], .sl false [.int .i64 8]], .agg [.int .i64 1, .int .i64 1, .sl false [.int .i64 0], .sl false [.int .i64 0], .sl false [.int .i64 1, .int .i64 1]]], .int .i64 (-4)⟩
set_option maxRecDepth 100000 in
theorem r116 : Runs X0 q116 := by unfold Runs; decide +kernel
def q118 : Known := ⟨69, [.agg [.int .i64 10, .sl false [.agg [.int .i64 10, .int .i64 2, .sl true [.int .i64 4]], .agg [.int .i64 4, .int .i64 5, .sl true [.int .i64 8]]], .sl false [.int .i64 6], .sl false [.int .i64 8]], .agg [.int .i64 1, .int .i64 (-1), .sl false [.int .i64 0], .sl false [.int .i64 0], .sl false [.int .i64 0, .int .i64 0]]], .int .i64 (-10)⟩
set_option maxRecDepth 100000 in
theorem r118 : Runs X0 q118 := by unfold Runs; decide +kernel
def q120 : Known := ⟨69, [.agg [.int .i64 10, .sl false [.agg [.int .i64 10, .int .i64 2, .sl true [.int .i64 4]], .agg [.int .i64 4, .int .i64 5, .sl true [.int .i64 8]]], .sl false [.int .i64 6], .sl false [.int .i64 8]], .agg [.int .i64 1, .int .i64 0, .sl false [.int .i64 1], .sl false [.int .i64 0], .sl false [.int .i64 4, .int .i64 8]]], .int .i64 (-12)⟩
set_option maxRecDepth 100000 in
theorem r120 : Runs X0 q120 := by unfold Runs; decide +kernel
def q122 : Known := ⟨69, [.agg [.int .i64 10, .sl false [.agg [.int .i64 10, .int .i64 2, .sl true [.int .i64 4]], .agg [.int .i64 4, .int .i64 5, .sl true [.int .i64 8]]], .sl false [.int .i64 6], .sl false [.int .i64 8]], .agg [.int .i64 1, .int .i64 0, .sl false [.int .i64 0], .sl false [.int .i64 1], .sl false [.int .i64 0, .int .i64 0]]], .int .i64 (-80)⟩
set_option maxRecDepth 100000 in
theorem r122 : Runs X0 q122 := by unfold Runs; decide +kernel
def q125 : Known := ⟨69, [.agg [.int .i64 10, .sl false [.agg [.int .i64 10, .int .i64 2, .sl true [.int .i64 4]], .agg [.int .i64 4, .int .i64 5, .sl true [.int .i64 8]]], .sl false [.int .i64 6], .sl false [.int .i64 8]], .agg [.int .i64 1, .int .i64 (-4), .sl false [.int .i64 1], .sl false [.int .i64 0], .sl false [.int .i64 0, .int .i64 4]]], .int .i64 4⟩
set_option maxRecDepth 100000 in
theorem r125 : Runs X0 q125 := by unfold Runs; decide +kernel
def q127 : Known := ⟨89, [.sl false [.sl true [.int .i64 1]], .int .i64 0, .int .i64 0], .int .i64 1⟩
set_option maxRecDepth 100000 in
theorem r127 : Runs X0 q127 := by unfold Runs; decide +kernel
def q128 : Known := ⟨89, [.sl false [.sl true [.int .i64 4]], .int .i64 0, .int .i64 0], .int .i64 1⟩
set_option maxRecDepth 100000 in
theorem r128 : Runs X0 q128 := by unfold Runs; decide +kernel
def q129 : Known := ⟨89, [.sl false [.sl true [.int .i64 8]], .int .i64 0, .int .i64 0], .int .i64 1⟩
set_option maxRecDepth 100000 in
theorem r129 : Runs X0 q129 := by unfold Runs; decide +kernel
def q130 : Known := ⟨89, [.sl false [.sl true [.int .i64 1, .int .i64 1], .sl true [.int .i64 4, .int .i64 8]], .int .i64 0, .int .i64 0], .int .i64 8⟩
set_option maxRecDepth 100000 in
theorem r130 : Runs X0 q130 := by unfold Runs; decide +kernel
def q131 : Known := ⟨89, [.sl false [.sl true [.int .i64 1, .int .i64 1], .sl true [.int .i64 4, .int .i64 8]], .int .i64 1, .int .i64 0], .int .i64 (-4)⟩
set_option maxRecDepth 100000 in
theorem r131 : Runs X0 q131 := by unfold Runs; decide +kernel
def q132 : Known := ⟨89, [.sl false [.sl true [.int .i64 1, .int .i64 1], .sl true [.int .i64 4, .int .i64 8]], .int .i64 0, .int .i64 1], .int .i64 (-1)⟩
set_option maxRecDepth 100000 in
theorem r132 : Runs X0 q132 := by unfold Runs; decide +kernel
def q133 : Known := ⟨89, [.sl false [.sl true [.int .i64 1, .int .i64 1], .sl true [.int .i64 4, .int .i64 8]], .int .i64 1, .int .i64 1], .int .i64 1⟩
set_option maxRecDepth 100000 in
theorem r133 : Runs X0 q133 := by unfold Runs; decide +kernel
def knownA : List Known := [q2, q4, q6, q8, q9, q11, q15, q21, q27, q29, q32, q34, q35, q39, q41, q43, q45, q46, q48, q52, q54, q55, q59, q61, q63, q65, q67, q71, q74, q78, q80, q85, q87, q89, q91, q93, q97, q99, q101, q103, q105, q109, q111, q113, q116, q118, q120, q122, q125, q127, q128, q129, q130, q131, q132, q133]
theorem rightA : AllRun X0 knownA := allRun_cons r2 (allRun_cons r4 (allRun_cons r6 (allRun_cons r8 (allRun_cons r9 (allRun_cons r11 (allRun_cons r15 (allRun_cons r21 (allRun_cons r27 (allRun_cons r29 (allRun_cons r32 (allRun_cons r34 (allRun_cons r35 (allRun_cons r39 (allRun_cons r41 (allRun_cons r43 (allRun_cons r45 (allRun_cons r46 (allRun_cons r48 (allRun_cons r52 (allRun_cons r54 (allRun_cons r55 (allRun_cons r59 (allRun_cons r61 (allRun_cons r63 (allRun_cons r65 (allRun_cons r67 (allRun_cons r71 (allRun_cons r74 (allRun_cons r78 (allRun_cons r80 (allRun_cons r85 (allRun_cons r87 (allRun_cons r89 (allRun_cons r91 (allRun_cons r93 (allRun_cons r97 (allRun_cons r99 (allRun_cons r101 (allRun_cons r103 (allRun_cons r105 (allRun_cons r109 (allRun_cons r111 (allRun_cons r113 (allRun_cons r116 (allRun_cons r118 (allRun_cons r120 (allRun_cons r122 (allRun_cons r125 (allRun_cons r127 (allRun_cons r128 (allRun_cons r129 (allRun_cons r130 (allRun_cons r131 (allRun_cons r132 (allRun_cons r133 (allRun_nil))))))))))))))))))))))))))))))))))))))))))))))))))))))))
end Go.AM.E
end

section
/-
Calls that the kernel has run.
-/
namespace Go.AM.E
open Go Go.AM Go.RowKit Go.Proofs

def q0 : Known := ⟨90, [.agg [.int .i64 10, .sl false [.agg [.int .i64 10, .int .i64 2, .sl true [.int .i64 4]], .agg [.int .i64 10, .int .i64 5, .sl true [.int .i64 8]]], .sl false [.int .i64 6], .sl false [.int .i64 8]], .sl false [.int .i64 0, .int .i64 0], .int .i64 1, .bool true], .agg [.int .i64 1, .int .i64 0, .sl true [.int .i64 0], .sl true [.int .i64 0], .sl true [.int .i64 0, .int .i64 0]]⟩
set_option maxRecDepth 100000 in
theorem r0 : Runs X0 q0 := by unfold Runs; decide +kernel
def q13 : Known := ⟨90, [.agg [.int .i64 10, .sl false [.agg [.int .i64 10, .int .i64 2, .sl true [.int .i64 4]], .agg [.int .i64 10, .int .i64 5, .sl true [.int .i64 8]]], .sl false [.int .i64 6], .sl false [.int .i64 8]], .sl false [.int .i64 2, .int .i64 0], .int .i64 1, .bool true], .agg [.int .i64 1, .int .i64 2, .sl true [.int .i64 0], .sl true [.int .i64 0], .sl true [.int .i64 0, .int .i64 0]]⟩
set_option maxRecDepth 100000 in
theorem r13 : Runs X0 q13 := by unfold Runs; decide +kernel
def q19 : Known := ⟨90, [.agg [.int .i64 10, .sl false [.agg [.int .i64 10, .int .i64 2, .sl true [.int .i64 4]], .agg [.int .i64 10, .int .i64 5, .sl true [.int .i64 8]]], .sl false [.int .i64 6], .sl false [.int .i64 8]], .sl false [.int .i64 5, .int .i64 0], .int .i64 1, .bool true], .agg [.int .i64 1, .int .i64 5, .sl true [.int .i64 0], .sl true [.int .i64 0], .sl true [.int .i64 3, .int .i64 0]]⟩
set_option maxRecDepth 100000 in
theorem r19 : Runs X0 q19 := by unfold Runs; decide +kernel
def q25 : Known := ⟨90, [.agg [.int .i64 10, .sl false [.agg [.int .i64 10, .int .i64 2, .sl true [.int .i64 4]], .agg [.int .i64 10, .int .i64 5, .sl true [.int .i64 8]]], .sl false [.int .i64 6], .sl false [.int .i64 8]], .sl false [.int .i64 0, .int .i64 2], .int .i64 4, .bool true], .agg [.int .i64 4, .int .i64 0, .sl true [.int .i64 2], .sl true [.int .i64 0], .sl true [.int .i64 0, .int .i64 0]]⟩
set_option maxRecDepth 100000 in
theorem r25 : Runs X0 q25 := by unfold Runs; decide +kernel
def q37 : Known := ⟨90, [.agg [.int .i64 10, .sl false [.agg [.int .i64 10, .int .i64 2, .sl true [.int .i64 4]], .agg [.int .i64 10, .int .i64 5, .sl true [.int .i64 8]]], .sl false [.int .i64 6], .sl false [.int .i64 8]], .sl false [.int .i64 0, .int .i64 5], .int .i64 8, .bool true], .agg [.int .i64 8, .int .i64 0, .sl true [.int .i64 5], .sl true [.int .i64 0], .sl true [.int .i64 4, .int .i64 0]]⟩
set_option maxRecDepth 100000 in
theorem r37 : Runs X0 q37 := by unfold Runs; decide +kernel
def q50 : Known := ⟨90, [.agg [.int .i64 10, .sl false [.agg [.int .i64 10, .int .i64 2, .sl true [.int .i64 4]], .agg [.int .i64 10, .int .i64 5, .sl true [.int .i64 8]]], .sl false [.int .i64 6], .sl false [.int .i64 8]], .sl false [.int .i64 (-4), .int .i64 3], .int .i64 4, .bool true], .agg [.int .i64 4, .int .i64 (-4), .sl true [.int .i64 3], .sl true [.int .i64 0], .sl true [.int .i64 0, .int .i64 0]]⟩
set_option maxRecDepth 100000 in
theorem r50 : Runs X0 q50 := by unfold Runs; decide +kernel
def q57 : Known := ⟨90, [.agg [.int .i64 10, .sl false [.agg [.int .i64 10, .int .i64 2, .sl true [.int .i64 4]], .agg [.int .i64 4, .int .i64 5, .sl true [.int .i64 8]]], .sl false [.int .i64 6], .sl false [.int .i64 8]], .sl false [.int .i64 0, .int .i64 0], .int .i64 1, .bool true], .agg [.int .i64 1, .int .i64 0, .sl true [.int .i64 0], .sl true [.int .i64 0], .sl true [.int .i64 0, .int .i64 0]]⟩
set_option maxRecDepth 100000 in
theorem r57 : Runs X0 q57 := by unfold Runs; decide +kernel
def q69 : Known := ⟨90, [.agg [.int .i64 10, .sl false [.agg [.int .i64 10, .int .i64 2, .sl true [.int .i64 4]], .agg [.int .i64 4, .int .i64 5, .sl true [.int .i64 8]]], .sl false [.int .i64 6], .sl false [.int .i64 8]], .sl false [.int .i64 2, .int .i64 0], .int .i64 1, .bool true], .agg [.int .i64 1, .int .i64 2, .sl true [.int .i64 0], .sl true [.int .i64 0], .sl true [.int .i64 0, .int .i64 0]]⟩
set_option maxRecDepth 100000 in
theorem r69 : Runs X0 q69 := by unfold Runs; decide +kernel
def q76 : Known := ⟨90, [.agg [.int .i64 10, .sl false [.agg [.int .i64 10, .int .i64 2, .sl true [.int .i64 4]], .agg [.int .i64 4, .int .i64 5, .sl true [.int .i64 8]]], .sl false [.int .i64 6], .sl false [.int .i64 8]], .sl false [.int .i64 5, .int .i64 0], .int .i64 1, .bool true], .agg [.int .i64 1, .int .i64 5, .sl true [.int .i64 0], .sl true [.int .i64 0], .sl true [.int .i64 3, .int .i64 0]]⟩
set_option maxRecDepth 100000 in
theorem r76 : Runs X0 q76 := by unfold Runs; decide +kernel
def q83 : Known := ⟨90, [.agg [.int .i64 10, .sl false [.agg [.int .i64 10, .int .i64 2, .sl true [.int .i64 4]], .agg [.int .i64 4, .int .i64 5, .sl true [.int .i64 8]]], .sl false [.int .i64 6], .sl false [.int .i64 8]], .sl false [.int .i64 0, .int .i64 2], .int .i64 4, .bool true], .agg [.int .i64 4, .int .i64 0, .sl true [.int .i64 2], .sl true [.int .i64 0], .sl true [.int .i64 0, .int .i64 0]]⟩
set_option maxRecDepth 100000 in
theorem r83 : Runs X0 q83 := by unfold Runs; decide +kernel
def q95 : Known := ⟨90, [.agg [.int .i64 10, .sl false [.agg [.int .i64 10, .int .i64 2, .sl true [.int .i64 4]], .agg [.int .i64 4, .int .i64 5, .sl true [.int .i64 8]]], .sl false [.int .i64 6], .sl false [.int .i64 8]], .sl false [.int .i64 0, .int .i64 5], .int .i64 8, .bool true], .agg [.int .i64 8, .int .i64 0, .sl true [.int .i64 5], .sl true [.int .i64 0], .sl true [.int .i64 4, .int .i64 0]]⟩
set_option maxRecDepth 100000 in
theorem r95 : Runs X0 q95 := by unfold Runs; decide +kernel
def q107 : Known := ⟨90, [.agg [.int .i64 10, .sl false [.agg [.int .i64 10, .int .i64 2, .sl true [.int .i64 4]], .agg [.int .i64 4, .int .i64 5, .sl true [.int .i64 8]]], .sl false [.int .i64 6], .sl false [.int .i64 8]], .sl false [.int .i64 (-4), .int .i64 3], .int .i64 4, .bool true], .agg [.int .i64 4, .int .i64 (-4), .sl true [.int .i64 3], .sl true [.int .i64 0], .sl true [.int .i64 0, .int .i64 0]]⟩
set_option maxRecDepth 100000 in
theorem r107 : Runs X0 q107 := by unfold Runs; decide +kernel
def q115 : Known := ⟨90, [.agg [.int .i64 10, .sl false [.agg [.int .i64 10, .int .i64 2, .sl true [.int .i64 4]], .agg [.int .i64 4, .int .i64 5, .sl true [.int .i64 8]]], .sl false [.int .i64 6], .sl false [.int .i64 8]], .sl false [.int .i64 1, .int .i64 0], .int .i64 1, .bool false], .agg [.int .i64 1, .int .i64 1, .sl true [.int .i64 0], .sl true [.int .i64 0], .sl true [.int .i64 1, .int .i64 1]]⟩
set_option maxRecDepth 100000 in
theorem r115 : Runs X0 q115 := by unfold Runs; decide +kernel
def q117 : Known := ⟨90, [.agg [.int .i64 10, .sl false [.agg [.int .i64 10, .int .i64 2, .sl true [.int .i64 4]], .agg [.int .i64 4, .int .i64 5, .sl true [.int .i64 8]]], .sl false [.int .i64 6], .sl false [.int .i64 8]], .sl false [.int .i64 (-1), .int .i64 0], .int .i64 1, .bool false], .agg [.int .i64 1, .int .i64 (-1), .sl true [.int .i64 0], .sl true [.int .i64 0], .sl true [.int .i64 0, .int .i64 0]]⟩
set_option maxRecDepth 100000 in
theorem r117 : Runs X0 q117 := by unfold Runs; decide +kernel
def q119 : Known := ⟨90, [.agg [.int .i64 10, .sl false [.agg [.int .i64 10, .int .i64 2, .sl true [.int .i64 4]], .agg [.int .i64 4, .int .i64 5, .sl true [.int .i64 8]]], .sl false [.int .i64 6], .sl false [.int .i64 8]], .sl false [.int .i64 0, .int .i64 1], .int .i64 1, .bool false], .agg [.int .i64 1, .int .i64 0, .sl true [.int .i64 1], .sl true [.int .i64 0], .sl true [.int .i64 4, .int .i64 8]]⟩
set_option maxRecDepth 100000 in
theorem r119 : Runs X0 q119 := by unfold Runs; decide +kernel
def q121 : Known := ⟨90, [.agg [.int .i64 10, .sl false [.agg [.int .i64 10, .int .i64 2, .sl true [.int .i64 4]], .agg [.int .i64 4, .int .i64 5, .sl true [.int .i64 8]]], .sl false [.int .i64 6], .sl false [.int .i64 8]], .sl false [.int .i64 0, .int .i64 (-1)], .int .i64 1, .bool false], .agg [.int .i64 1, .int .i64 0, .sl true [.int .i64 0], .sl true [.int .i64 1], .sl true [.int .i64 0, .int .i64 0]]⟩
set_option maxRecDepth 100000 in
theorem r121 : Runs X0 q121 := by unfold Runs; decide +kernel
def q124 : Known := ⟨90, [.agg [.int .i64 10, .sl false [.agg [.int .i64 10, .int .i64 2, .sl true [.int .i64 4]], .agg [.int .i64 4, .int .i64 5, .sl true [.int .i64 8]]], .sl false [.int .i64 6], .sl false [.int .i64 8]], .sl false [.int .i64 (-4), .int .i64 1], .int .i64 1, .bool false], .agg [.int .i64 1, .int .i64 (-4), .sl true [.int .i64 1], .sl true [.int .i64 0], .sl true [.int .i64 0, .int .i64 4]]⟩
set_option maxRecDepth 100000 in
theorem r124 : Runs X0 q124 := by unfold Runs; decide +kernel
def knownB : List Known := [q0, q13, q19, q25, q37, q50, q57, q69, q76, q83, q95, q107, q115, q117, q119, q121, q124]
theorem rightB : AllRun X0 knownB := allRun_cons r0 (allRun_cons r13 (allRun_cons r19 (allRun_cons r25 (allRun_cons r37 (allRun_cons r50 (allRun_cons r57 (allRun_cons r69 (allRun_cons r76 (allRun_cons r83 (allRun_cons r95 (allRun_cons r107 (allRun_cons r115 (allRun_cons r117 (allRun_cons r119 (allRun_cons r121 (allRun_cons r124 (allRun_nil)))))))))))))))))
end Go.AM.E
end

section
/-
The machine's outside with the small calls.
-/
namespace Go.AM.E
open Go Go.AM Go.RowKit Go.Proofs

def X1 : Ext := XK X0 (knownA ++ knownB)
theorem rightAB : Right (knownA ++ knownB) := right_app (allRun_right X0_ok rightA) (allRun_right X0_ok rightB)
theorem X1_ok : ExtOk Try.prog X1 := XK_ok X0_ok rightAB
end Go.AM.E
end

