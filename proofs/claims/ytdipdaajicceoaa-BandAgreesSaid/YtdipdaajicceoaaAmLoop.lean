/-
Loops in the limit.
-/
import Derived.Test.YtdipdaajicceoaaAmLim
namespace Go.AM
open Go

/-- What a round of a loop answers: it goes on from a state, or the loop is left. -/
def after (fc : FC) (b : Code) (r : Option (Ex × St)) (K : St → Prop) (D : Ex × St → Prop) : Prop := match r with
  | some (.normal, s) => K (normOf fc b s)
  | some (.exit i, s) => D (.exit i, s)
  | some (.ret, s) => D (.ret, s)
  | none => False

section
variable {E : Env} {X : Ext} {fc : FC} {base : Nat} {b : Code} {st : St}

@[simp] theorem after_normal (s : St) (K : St → Prop) (D : Ex × St → Prop) : after fc b (some (.normal, s)) K D = K (normOf fc b s) := rfl
@[simp] theorem after_exit (i : Nat) (s : St) (K : St → Prop) (D : Ex × St → Prop) : after fc b (some (.exit i, s)) K D = D (.exit i, s) := rfl
@[simp] theorem after_ret (s : St) (K : St → Prop) (D : Ex × St → Prop) : after fc b (some (.ret, s)) K D = D (.ret, s) := rfl

/-- A loop whose states at its head are S a: what is left of it falls, and what it answers stays. -/
theorem den_loop_rule {α : Type} (S : α → St) (R : α → Ex × St) (m : α → Nat) (a0 : α) (h0 : normOf fc b st = S a0)
    (h : ∀ a, after fc b (den E X fc base b (S a)) (fun s => ∃ a', s = S a' ∧ R a' = R a ∧ m a' < m a) (fun q => q = R a)) :
    den E X fc base (.loop b) st = some (R a0) := by
  have key : ∀ (n : Nat) (a : α) (st : St), m a < n → normOf fc b st = S a → den E X fc base (.loop b) st = some (R a) := by
    intro n
    induction n with
    | zero => intro a st hm _; omega
    | succ n ih =>
      intro a st hm h0
      rw [den_loop, h0]
      have ha := h a
      cases hd : den E X fc base b (S a) with
      | none => rw [hd] at ha; exact ha.elim
      | some p =>
        obtain ⟨e, s⟩ := p
        rw [hd] at ha
        cases e with
        | normal =>
          obtain ⟨a', h1, h2, h3⟩ := ha
          rw [andThen_normal, ih a' s (by omega) h1, h2]
        | exit i => rw [andThen_exit]; exact congrArg some ha
        | ret => rw [andThen_ret]; exact congrArg some ha
  exact key (m a0 + 1) a0 st (Nat.lt_succ_self _) h0

/-- A loop whose states at its head are S a, whatever it answers at the end. -/
theorem den_loop_post {α : Type} {K : Option (Ex × St) → Prop} {r : Option (Ex × St)} (hr : den E X fc base (.loop b) st = r) (S : α → St) (m : α → Nat) (a0 : α) (h0 : normOf fc b st = S a0)
    (h : ∀ a, after fc b (den E X fc base b (S a)) (fun s => ∃ a', s = S a' ∧ m a' < m a) (fun q => K (some q))) : K r := by
  subst hr
  have key : ∀ (n : Nat) (a : α) (st : St), m a < n → normOf fc b st = S a → K (den E X fc base (.loop b) st) := by
    intro n
    induction n with
    | zero => intro a st hm _; omega
    | succ n ih =>
      intro a st hm h0
      rw [den_loop, h0]
      have ha := h a
      cases hd : den E X fc base b (S a) with
      | none => rw [hd] at ha; exact ha.elim
      | some p =>
        obtain ⟨e, s⟩ := p
        rw [hd] at ha
        cases e with
        | normal =>
          obtain ⟨a', h1, h3⟩ := ha
          rw [andThen_normal]
          exact ih a' s (by omega) h1
        | exit i => exact ha
        | ret => exact ha
  exact key (m a0 + 1) a0 st (Nat.lt_succ_self _) h0
end
end Go.AM
