/-
The abstract machine on code and on functions: right.
-/
import Derived.Test.YtdipdaajicceoaaAmRange
namespace Go.AM
open Go Go.RowKit

section
variable {P : Program} {E : Env} {O : Orc} {C : Cx} {D : List Deferred} {outs : List (List Value)} {st st' : St} {a : Act} {w : World} {σ : Places} {m : Nat}

theorem normOf_ok (h : Sim C D outs st a w σ) (fc : FC) (b : Code) : ∃ σ', Sim C D outs (normOf fc b st) a w σ' := by
  unfold normOf
  split
  · split
    · split
      · exact ⟨σ, { h with slots := mask_ok _ 0 _ _ h.slots }⟩
      · obtain ⟨σ', h1, _⟩ := norm_ok h ‹_›; exact ⟨σ', h1⟩
    · exact ⟨σ, h⟩
  · exact ⟨σ, h⟩

/-- Code runs as the abstract machine says. -/
theorem ev_ok (hT : TyOk P E) (hS : SeqsOk P E) (hO : OrcOk P E O) (hm : P.follows .mixedOrders = true) {fc : FC} {base : Nat} : ∀ (n : Nat) (ro : Option Nat) (m : Nat) (c : Code) {C : Cx}, (ro = none ∧ C.mrk = true ∨ noRange c = true) →
    ∀ {D : List Deferred} {outs : List (List Value)} {st st' : St} {e : Ex} {a : Act} {w : World} {σ : Places} {Q : Exit → Act → World → Prop},
    Sim C D outs st a w σ → ev E O fc base n c st = some (e, st') → (∀ a' w' σ', Sim C D outs st' a' w' σ' → Q (exOf e) a' w') → c.wpIn (W ro) m P Q a w := by
  intro n
  induction n with
  | zero => intro ro m c C _ D outs st st' e a w σ Q _ he; simp [ev] at he
  | succ n ih0 =>
    intro ro m c C hro D outs st st' e a w σ Q h he hQ
    have ih : ∀ (c : Code), (ro = none ∧ C.mrk = true ∨ noRange c = true) → ∀ {st st' : St} {e : Ex} {a : Act} {w : World} {σ : Places} {Q : Exit → Act → World → Prop},
        Sim C D outs st a w σ → ev E O fc base n c st = some (e, st') → (∀ a' w' σ', Sim C D outs st' a' w' σ' → Q (exOf e) a' w') → c.wpIn (W ro) m P Q a w := fun c hc => ih0 ro m c hc
    simp only [ev] at he
    split at he
    · cases he; exact wpIn_skip (hQ _ _ _ h)
    · rename_i id ops draw
      split at he
      case h_2 => cases he
      rename_i s hs
      cases he
      unfold evRegion at hs
      cases draw with
      | true =>
        simp only [if_true] at hs
        exact wpIn_region_any hm (evD_ok hT hO h hs (fun a' w' σ' h' => hQ a' w' σ' h'))
      | false =>
        simp only [Bool.false_eq_true, if_false] at hs
        have := evOps_ok (Q := Q) (ro := ro) (m := m) hT hO (st' := st') (D := D) (C := C) (outs := outs) (fun a' w' σ' h' => hQ a' w' σ' h') 0 ops.toList (fun i => by simp) (by simp) h hs
        rw [Array.length_toList] at this
        exact wpIn_region (by rw [List.range_eq_range']; exact this)
    · rename_i x y
      refine wpIn_seq ?_
      split at he
      · rename_i s hs
        refine ih x (hro.imp_right fun hr => (Bool.and_eq_true_iff.1 hr).1) h hs fun a' w' σ' h' => ?_
        exact ih y (hro.imp_right fun hr => (Bool.and_eq_true_iff.1 hr).2) h' he hQ
      · rename_i r hr
        refine ih x (hro.imp_right fun hr => (Bool.and_eq_true_iff.1 hr).1) h he fun a' w' σ' h' => ?_
        cases e with
        | normal => exact absurd he (hr _)
        | exit id => exact hQ _ _ _ h'
        | ret => exact hQ _ _ _ h'
    · rename_i c x y
      split at he
      case h_2 => cases he
      rename_i t ht
      have hc := h.eval c
      rw [ht] at hc
      simp only [Rep] at hc
      refine wpIn_cond hc ?_
      cases t
      · exact ih _ (hro.imp_right fun hr => (Bool.and_eq_true_iff.1 hr).2) h he hQ
      · exact ih _ (hro.imp_right fun hr => (Bool.and_eq_true_iff.1 hr).1) h he hQ
    · rename_i id b
      refine wpIn_block ?_
      split at he
      · rename_i i s hs
        refine ih b (hro.imp_right fun hr => hr) h hs fun a' w' σ' h' => ?_
        simp only [exOf, Exit.inBlock]
        split at he
        · rename_i hi
          cases he
          rw [if_pos hi]
          exact hQ _ _ _ h'
        · rename_i hi
          cases he
          rw [if_neg hi]
          exact hQ _ _ _ h'
      · rename_i r hr
        refine ih b (hro.imp_right fun hr => hr) h he fun a' w' σ' h' => ?_
        cases e with
        | normal => exact hQ _ _ _ h'
        | exit id => exact absurd he (hr _ _)
        | ret => exact hQ _ _ _ h'
    · rename_i b
      refine wpIn_loop_rounds (n + 1) ?_
      -- round by round
      have rounds : ∀ (k : Nat), k ≤ n → ∀ {st : St} {a : Act} {w : World} {σ : Places}, Sim C D outs st a w σ → ev E O fc base (k + 1) (.loop b) st = some (e, st') →
          Code.roundsIn (W ro) m P b Q (k + 1) a w := by
        intro k
        induction k with
        | zero =>
          intro _ st a w σ h he
          simp only [ev] at he
          cases he
        | succ k ihk =>
          intro hk st a w σ h he
          rw [roundsIn_succ]
          obtain ⟨σ', h2⟩ := normOf_ok h fc b
          have up : ∀ r, ev E O fc base (k + 1) b (normOf fc b st) = some r → ev E O fc base n b (normOf fc b st) = some r := fun r hr => ev_mono (Orc.le.refl O) (by omega) b hr
          rw [ev] at he
          split at he
          · rename_i s hs
            exact ih b (hro.imp_right fun hr => hr) h2 (up _ hs) fun a' w' σ' h' => ihk (by omega) h' he
          · rename_i hr
            refine ih b (hro.imp_right fun hr => hr) h2 (up _ he) fun a' w' σ' h' => ?_
            cases e with
            | normal => exact absurd he (hr _)
            | exit id => exact hQ _ _ _ h'
            | ret => exact hQ _ _ _ h'
      exact rounds n (Nat.le_refl _) h (by rw [ev]; exact he)
    · rename_i g ps assign body
      rcases hro with ⟨rfl, hmk⟩ | hr
      · split at he
        case h_2 => cases he
        rename_i xss hx
        exact range_ok (fun l m c hc => ih0 (some l) m c (.inr hc)) hS hmk h hx he hQ
      · cases hr
    · cases he; exact wpIn_exit (hQ _ _ _ h)
    · cases he; exact wpIn_ret (hQ _ _ _ h)
    · cases he; exact wpIn_label (hQ _ _ _ h)
    · cases he

end
end Go.AM
