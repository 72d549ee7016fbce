/-
The abstract machine on code and on functions: right.
-/
import Derived.Test.YtdipdaajicceoaaAmDraw
import Derived.Test.YtdipdaajicceoaaAmMono
namespace Go.AM
open Go Go.RowKit

section
variable {P : Program} {E : Env} {O : Orc} {C : Cx} {D : List Deferred} {outs : List (List Value)} {st st' : St} {a : Act} {w : World} {σ : Places} {ro : Option Nat} {m : Nat}

def exOf : Ex → Exit
  | .normal => .normal
  | .exit id => .exit id
  | .ret => .ret

theorem mask_ok {mo : Option Bool} (keep : List Nat) : ∀ (i : Nat) (vs : List V) (ds : List Value), RepL C w σ mo vs ds → RepL C w σ mo (maskFrom keep i vs) ds
  | _, [], _, h => h
  | i, v :: vs, _, h => by
    simp only [RepL, maskFrom] at h ⊢
    obtain ⟨d, r, rfl, hd, hr⟩ := h
    refine ⟨d, r, rfl, ?_, mask_ok keep (i + 1) vs r hr⟩
    split
    · exact hd
    · trivial

theorem norm_ok (h : Sim C D outs st a w σ) (keep : List Nat) : ∃ σ', Sim C D outs (norm keep st) a w σ' := by
  have h1 : Sim C D outs { st with slots := maskFrom keep 0 st.slots } a w σ := { h with slots := mask_ok keep 0 _ _ h.slots }
  obtain ⟨σ', h2, _⟩ := h1.dropL (l := ((({ st with slots := maskFrom keep 0 st.slots } : St).objs.map (·.1)).filter fun i => !(reach ({ st with slots := maskFrom keep 0 st.slots } : St).objs depth (idsL ({ st with slots := maskFrom keep 0 st.slots } : St).slots ++ idsLL ({ st with slots := maskFrom keep 0 st.slots } : St).outer)).contains i))
  exact ⟨σ', h2⟩

theorem normOf_ok (h : Sim C D outs st a w σ) (fc : FC) (b : Code) : ∃ σ', Sim C D outs (normOf fc b st) a w σ' := by
  unfold normOf
  split
  · split
    · exact norm_ok h _
    · exact ⟨σ, h⟩
  · exact ⟨σ, h⟩

/-- Code runs as the abstract machine says. -/
theorem ev_ok (hT : TyOk P E) (hO : OrcOk P E O) (hm : P.follows .mixedOrders = true) {fc : FC} {base : Nat} : ∀ (n : Nat) (c : Code) {st st' : St} {e : Ex} {a : Act} {w : World} {σ : Places} {Q : Exit → Act → World → Prop},
    Sim C D outs st a w σ → ev E O fc base n c st = some (e, st') → (∀ a' w' σ', Sim C D outs st' a' w' σ' → Q (exOf e) a' w') → c.wpIn (W ro) m P Q a w := by
  intro n
  induction n with
  | zero => intro c st st' e a w σ Q _ he; simp [ev] at he
  | succ n ih =>
    intro c st st' e a w σ Q h he hQ
    simp only [ev] at he
    split at he
    · cases he; exact wpIn_skip (hQ _ _ _ h)
    · rename_i id ops draw
      split at he
      case h_2 => cases he
      rename_i s hs
      cases he
      unfold evRegion at hs
      cases draw with
      | true =>
        simp only [if_true] at hs
        exact wpIn_region_any hm (evD_ok hT hO h hs (fun a' w' σ' h' => hQ a' w' σ' h'))
      | false =>
        simp only [Bool.false_eq_true, if_false] at hs
        have := evOps_ok (Q := Q) (ro := ro) (m := m) hT hO (st' := st') (D := D) (C := C) (outs := outs) (fun a' w' σ' h' => hQ a' w' σ' h') 0 ops.toList (fun i => by simp) (by simp) h hs
        rw [Array.length_toList] at this
        exact wpIn_region (by rw [List.range_eq_range']; exact this)
    · rename_i x y
      refine wpIn_seq ?_
      split at he
      · rename_i s hs
        refine ih x h hs fun a' w' σ' h' => ?_
        exact ih y h' he hQ
      · rename_i r hr
        refine ih x h he fun a' w' σ' h' => ?_
        cases e with
        | normal => exact absurd he (hr _)
        | exit id => exact hQ _ _ _ h'
        | ret => exact hQ _ _ _ h'
    · rename_i c x y
      split at he
      case h_2 => cases he
      rename_i t ht
      have hc := h.eval c
      rw [ht] at hc
      simp only [Rep] at hc
      refine wpIn_cond hc ?_
      cases t
      · exact ih _ h he hQ
      · exact ih _ h he hQ
    · rename_i id b
      refine wpIn_block ?_
      split at he
      · rename_i i s hs
        refine ih b h hs fun a' w' σ' h' => ?_
        simp only [exOf, Exit.inBlock]
        split at he
        · rename_i hi
          cases he
          rw [if_pos hi]
          exact hQ _ _ _ h'
        · rename_i hi
          cases he
          rw [if_neg hi]
          exact hQ _ _ _ h'
      · rename_i r hr
        refine ih b h he fun a' w' σ' h' => ?_
        cases e with
        | normal => exact hQ _ _ _ h'
        | exit id => exact absurd he (hr _ _)
        | ret => exact hQ _ _ _ h'
    · rename_i b
      refine wpIn_loop_rounds (n + 1) ?_
      -- round by round
      have rounds : ∀ (k : Nat), k ≤ n → ∀ {st : St} {a : Act} {w : World} {σ : Places}, Sim C D outs st a w σ → ev E O fc base (k + 1) (.loop b) st = some (e, st') →
          Code.roundsIn (W ro) m P b Q (k + 1) a w := by
        intro k
        induction k with
        | zero =>
          intro _ st a w σ h he
          simp only [ev] at he
          cases he
        | succ k ihk =>
          intro hk st a w σ h he
          rw [roundsIn_succ]
          obtain ⟨σ', h2⟩ := normOf_ok h fc b
          have up : ∀ r, ev E O fc base (k + 1) b (normOf fc b st) = some r → ev E O fc base n b (normOf fc b st) = some r := fun r hr => ev_mono (Orc.le.refl O) (by omega) b hr
          rw [ev] at he
          split at he
          · rename_i s hs
            exact ih b h2 (up _ hs) fun a' w' σ' h' => ihk (by omega) h' he
          · rename_i hr
            refine ih b h2 (up _ he) fun a' w' σ' h' => ?_
            cases e with
            | normal => exact absurd he (hr _)
            | exit id => exact hQ _ _ _ h'
            | ret => exact hQ _ _ _ h'
      exact rounds n (Nat.le_refl _) h (by rw [ev]; exact he)
    · cases he; exact wpIn_exit (hQ _ _ _ h)
    · cases he; exact wpIn_ret (hQ _ _ _ h)
    · cases he; exact wpIn_label (hQ _ _ _ h)
    · cases he

end
end Go.AM
